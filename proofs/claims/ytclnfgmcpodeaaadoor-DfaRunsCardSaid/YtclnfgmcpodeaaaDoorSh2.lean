/-
  Walks and plain laws towards the statements of this seat (Sh2). Conditions: those that each theorem names.
-/
import Derived.Test.YtclnfgmcpodeaaaDoorSh
import Derived.Test.YtclnfgmcpodeaaaDoorTk
set_option linter.unusedVariables false
set_option linter.unusedSimpArgs false
namespace Go.Proofs
open Go Go.Fw Go.RowKit Go.Sort
set_option maxHeartbeats 2000000
theorem only_mapBlock (w : World) (b : Nat) (f : Array Value → Array Value) : Only w (mapBlock w b f) b where
  heap c hc := by simp [mapBlock, Array.getElem?_modify, Ne.symm hc]
  size := by simp [mapBlock]
  os := rfl
  tape := rfl
  output := rfl
theorem quiet_ahead (w : World) (n : Nat) : Quiet w (Sort.ahead w n) := ⟨fun _ _ => rfl, Nat.le_refl _, rfl, rfl, rfl⟩
theorem quiet_grow (w : World) (os : Array Obj) : Quiet w (Sort.grow w os) where
  heap b hb := by simp [Sort.grow, Array.getElem?_append, hb]
  size := by simp [Sort.grow]
  os := rfl
  tape := rfl
  output := rfl
theorem mapBlock_at {w : World} {b : Nat} {f : Array Value → Array Value} {c : Array Value} {T : TypeId} {fz : Nat × Nat} (h : w.heap[b]? = some (.cells c T fz)) : (mapBlock w b f).heap[b]? = some (.cells (f c) T fz) := by
  simp [mapBlock, Array.getElem?_modify, h, onCells]
theorem putCells_at (l : List Int) (c : Array Value) (hl : l.length ≤ c.size) (j : Nat) (hj : j < l.length) : (putCells (Value.int .i64) 0 l.toArray c).toList[j]? = some (.int .i64 (l.getD j 0)) := by
  simp only [putCells, Array.toList_mapIdx, List.getElem?_mapIdx]
  rw [Array.getElem?_toList, Array.getElem?_eq_getElem (by omega)]
  simp [hj]
theorem putCells_size (l : List Int) (c : Array Value) : (putCells (Value.int .i64) 0 l.toArray c).size = c.size := by simp [putCells]
/-- a row of ints, handed in -/
theorem own_ints {E : Ent} {ι : Nat → Fw.Loc} {S : Nat → Prop} {w : World} {h : Heap} {n id len : Nat} {l : List Int} {y : Value} {T : TypeId} (hm : Mem E h n ι S w) (hl : lk id h = some (.row T 1 (l.map intF))) (hlen : l.length = len) (hv : VR S ι n w (.sl id 1 0 len) y) :
    (l = [] ∧ ∃ a c, y = .slice a 0 c) ∨ ∃ b vs cap, (ι id).b = some b ∧ (ι id).cap = cap ∧ y = .slice (some ⟨b, 0, none⟩) l.length cap ∧ w.heap[b]? = some (.cells vs T (0, 0)) ∧ l.length ≤ cap ∧ cap ≤ maxLen ∧ vs.size = cap ∧ (∀ j, j < l.length → vs.toList[j]? = some (.int .i64 (l.getD j 0))) ∧ Holds (Value.int .i64) w b 0 l.toArray := by
  obtain ⟨_, ho⟩ := hm.obj id _ hl
  simp only [VR] at hv
  obtain ⟨_, hv⟩ := hv
  rcases hv with ⟨hb, _, h0, _, rfl⟩ | ⟨b, o, hb, hle, _, ho0, rfl⟩
  · exact .inl ⟨List.length_eq_zero_iff.1 (by omega), none, 0, rfl⟩
  · have := ho0 trivial; subst this
    rcases ho with ⟨hn, _⟩ | ⟨b', vs, hb', hh, hxl, hcap, hsz, hr⟩
    · rw [hn] at hb; cases hb
    · rw [hb] at hb'; simp only [Option.some.injEq] at hb'; subst hb'
      have hat := row_int hr
      refine .inr ⟨b, vs, _, hb, rfl, by simp [hlen], hh, by simpa using hxl, hcap, by simpa using hsz, hat, ?_⟩
      intro j hj
      simp only [List.size_toArray] at hj
      refine ⟨?_, by simp [World.frozen?, hh]⟩
      simp only [World.cell?, hh, Option.isSome_none, Bool.false_eq_true, if_false]
      have := hat j hj
      rw [Array.getElem?_toList] at this
      simp only [Nat.zero_add, this]
      rw [List.getD, List.getElem?_eq_getElem hj]
      simp [hj]
theorem g_clone (l : List Int) (hl : l.length < 1000000000) : GD Tryd.prog 53 0 [] [.f (.sl 1 (l.map intF))] (.sl 0 1 0 l.length) [(0, .row 3 1 (l.map intF))] 1 := by
  intro S ι w vals hm hv
  simp only [VRs, VR] at hv
  obtain ⟨y, ys, e, hy, rfl⟩ := hv
  have ev : vals = #[y] := by rw [← Array.toArray_toList (xs := vals), e]
  rw [ev]
  have hnil : ∀ {l : List Int}, l = [] → FinE (entOf w ι 0 [] S) (fun av σ => av = .sl 0 1 0 l.length ∧ σ = ⟨[], [(0, .row 3 1 (l.map intF))], 1⟩) (.slice none 0 0) w := by
    intro l hl
    subst hl
    refine ⟨_, _, _, ext ι 0 ⟨none, 0⟩, S, ⟨rfl, rfl⟩, ?_, ?_⟩
    · exact hm.name (l := ⟨none, 0⟩) (by simp) (.inl ⟨rfl, rfl, rfl⟩)
    · simp only [VR]
      exact ⟨by decide, .inl ⟨by rw [ext_new], trivial, by simp, by rw [ext_new], trivial⟩⟩
  have hown : ∀ v' w', w'.ownsRow w.heap.size 3 1 v' l.length (l.map (Value.int .i64)) → v' ≠ .slice none 0 0 → Below w.heap.size w w' → FinE (entOf w ι 0 [] S) (fun av σ => av = .sl 0 1 0 l.length ∧ σ = ⟨[], [(0, .row 3 1 (l.map intF))], 1⟩) v' w' := by
    intro v' w' ho hne hbl
    obtain ⟨_, ⟨rfl, _⟩ | ⟨g, cap, cur, rfl, hg, hh, hle, hcap, hsz, htk⟩⟩ := ho
    · exact absurd rfl hne
    have q : Quiet w w' := ⟨hbl.block, hbl.size, hbl.os, hbl.tape, hbl.output⟩
    have hglt : g < w'.heap.size := by
      rcases Nat.lt_or_ge g w'.heap.size with h | h
      · exact h
      · rw [Array.getElem?_eq_none h] at hh; cases hh
    refine ⟨_, _, _, ext ι 0 ⟨some g, cap⟩, S, ⟨rfl, rfl⟩, ?_, ?_⟩
    · refine (hm.quiet q).name (l := ⟨some g, cap⟩) ?_ (.inr ⟨g, cur, rfl, hh, by simpa using hle, hcap, by simpa using hsz, ?_⟩)
      · intro b hb
        simp only [Option.some.injEq] at hb
        subst hb
        exact ⟨hglt, fun hs => absurd (hm.slt _ hs) (by omega), .inr hg, fun id o h => by cases h⟩
      · apply int_row
        intro j hj
        have h1 : (cur.toList.take (l.length * 1))[j]? = (l.map (Value.int .i64))[j]? := by rw [htk]
        rw [List.getElem?_take, if_pos (by omega)] at h1
        rw [h1, List.getElem?_map, List.getElem?_eq_getElem hj]
        simp [hj]
    · simp only [VR]
      refine ⟨by decide, .inr ⟨g, 0, by rw [ext_new], by rw [ext_new]; simpa using hle, fun _ => by simp, fun _ => rfl, by rw [ext_new]; simp⟩⟩
  rcases ints_at hy with ⟨h0, a, c, rfl⟩ | ⟨b, o, c, rfl, hle, hc⟩
  · subst h0
    cases a with
    | none =>
      refine (Tryd.slices_Clone_int_nil 0 c w).mono ?_
      rintro e w' ⟨rfl, rfl⟩
      exact ⟨_, rfl, hnil rfl⟩
    | some a =>
      refine (Tryd.slices_Clone_int_zero a c w).mono ?_
      rintro e w' ⟨v', rfl, h1, h2, h3⟩
      exact ⟨_, rfl, hown v' w' h1 h2 h3⟩
  · refine (Tryd.slices_Clone_int b o l.length c l w (Nat.le_refl _) (by omega) hc).mono ?_
    rintro e w' ⟨v', rfl, h1, h2, h3⟩
    rw [List.take_length] at h1
    exact ⟨_, rfl, hown v' w' h1 h2 h3⟩
theorem g_sort (l : List Int) (hl : l.length < 1000000000) : GD Tryd.prog 54 1 [(0, .row 3 1 (l.map intF))] [.sl 0 1 0 l.length] (.f (.tup [])) [(0, .row 3 1 ((l.mergeSort fun x y => decide (x ≤ y)).map intF))] 1 := by
  intro S ι w vals hm hv
  simp only [VRs] at hv
  obtain ⟨y, ys, e, hy, rfl⟩ := hv
  have ev : vals = #[y] := by rw [← Array.toArray_toList (xs := vals), e]
  rw [ev]
  have hl0 : lk 0 [(0, AO.row 3 1 (l.map intF))] = some (.row 3 1 (l.map intF)) := rfl
  rcases own_ints hm hl0 rfl hy with ⟨h0, a, c, rfl⟩ | ⟨b, vs, cap, hb, hcap, rfl, hh, hle, hmax, hsz, hat, hH⟩
  · subst h0
    refine (Tryd.slices_Sort_int_none a c w).mono ?_
    rintro e w' ⟨rfl, rfl⟩
    refine ⟨_, rfl, _, _, _, ι, S, ⟨rfl, rfl⟩, by simpa using hm, by simp [VR, FR, FRs]⟩
  · have hblt := (hm.own 0 _ b hl0 hb).1
    refine (Tryd.slices_Sort_int b 0 cap l w hH hblt (by omega)).mono ?_
    rintro e w' ⟨rfl, n, os, rfl⟩
    refine ⟨_, rfl, _, _, _, ι, S, ⟨rfl, rfl⟩, ?_, by simp [VR, FR, FRs]⟩
    have hlen : (l.mergeSort fun x y => decide (x ≤ y)).length = l.length := List.length_mergeSort ..
    have m1 := (hm.quiet (quiet_ahead w n)).put (o' := .row 3 1 ((l.mergeSort fun x y => decide (x ≤ y)).map intF)) hl0 hb (only_mapBlock _ b (putCells (Value.int .i64) 0 (l.mergeSort fun x y => decide (x ≤ y)).toArray))
      (.inr ⟨b, _, hb, mapBlock_at hh, by rw [hcap]; simp [hlen]; exact hle, by rw [hcap]; exact hmax, by rw [putCells_size, hcap]; simpa using hsz, ?_⟩)
    · exact m1.quiet (quiet_grow _ os)
    · exact int_row fun j hj => putCells_at _ _ (by rw [hlen]; omega) j hj
theorem compact_len (l : List Int) : (Lib.compact l).length ≤ l.length := by
  unfold Lib.compact Lib.compactUpTo
  rw [List.length_map]
  refine Nat.le_trans (List.length_filter_le _ _) (by simp)
theorem g_compact (l : List Int) (hl : l.length < 1000000000) : GD Tryd.prog 55 1 [(0, .row 3 1 (l.map intF))] [.sl 0 1 0 l.length] (.sl 0 1 0 (Lib.compact l).length)
    [(0, .row 3 1 ((Lib.compact l ++ List.replicate (l.length - (Lib.compact l).length) 0).map intF))] 1 := by
  intro S ι w vals hm hv
  simp only [VRs] at hv
  obtain ⟨y, ys, e, hy, rfl⟩ := hv
  have ev : vals = #[y] := by rw [← Array.toArray_toList (xs := vals), e]
  rw [ev]
  have hcl := compact_len l
  have hl0 : lk 0 [(0, AO.row 3 1 (l.map intF))] = some (.row 3 1 (l.map intF)) := rfl
  rcases own_ints hm hl0 rfl hy with ⟨h0, a, c, rfl⟩ | ⟨b, vs, cap, hb, hcap, rfl, hh, hle, hmax, hsz, hat, hH⟩
  · subst h0
    refine (Tryd.slices_Compact_int_empty a c w).mono ?_
    rintro e w' ⟨rfl, rfl⟩
    have e0 : Lib.compact ([] : List Int) = [] := rfl
    exact ⟨_, rfl, _, _, _, ι, S, ⟨rfl, rfl⟩, by rw [e0]; simpa using hm, by rw [e0]; simpa using hy⟩
  · refine (Tryd.slices_Compact_int b 0 cap l w hH (by omega) hle).mono ?_
    rintro e w' ⟨rfl, q, rfl⟩
    have hlen : (Lib.compact l ++ List.replicate (l.length - (Lib.compact l).length) 0).length = l.length := by simp; omega
    refine ⟨_, rfl, _, _, _, ι, S, ⟨rfl, rfl⟩, ?_, ?_⟩
    · exact (hm.quiet (quiet_ahead w q)).put (o' := .row 3 1 ((Lib.compact l ++ List.replicate (l.length - (Lib.compact l).length) 0).map intF)) hl0 hb (only_mapBlock _ b (putCells (Value.int .i64) 0 _))
        (.inr ⟨b, _, hb, mapBlock_at hh, by rw [hcap, List.length_map, hlen]; exact hle, by rw [hcap]; exact hmax, by rw [putCells_size, hcap]; simpa using hsz, int_row fun j hj => putCells_at _ _ (by rw [hlen]; omega) j hj⟩)
    · simp only [VR]
      exact ⟨by decide, .inr ⟨b, 0, hb, by omega, fun _ => by simp, fun _ => rfl, by rw [hcap]; simp⟩⟩
theorem p_isort (l : List Int) (hl : l.length < 1000000000) : PC Tryd.prog 25 [.sl 1 (l.map intF)] (· = .sl 1 ((Lib.compact (l.mergeSort fun x y => decide (x ≤ y))).map intF)) := by
  refine PC.in 1000 Tryd.func25 (by kernel_rfl) rfl (by kernel_rfl) fun Ph Ps E Q hE hQ => ?_
  simp only [Tryd.f25, AWn, AWg, AWc, AWi, AWx, AWd, exitTo, slots, aEnd, aOut, jAV, aRet, retAV, tupOf, RF, RFo, release, release.rels, aop, ev, evs, evo, evl, constAV, strip, lk, guardOf, gd, Ja, Jb, Jc, St.put, Jd, Je, Jf, AV.s, AV.cells, FV.cells, AV.one, FV.okE, hset, hdel, aMove, aBin, resV, bopV, bopInt, bopStr, bopBool, aPick, aNot, aNeg, aXor, aConv, rdSl, aNil, newCells, aAlloc, aBox, ldAgg, aLoad, aStore, aStoreRow, writeAt, fldAt, aFieldAddr, partOf, aField, idxAddrE, arrAddrE, aIndexAddr, arrIdx, aIndex, bnds, slStr, slF, slO, aSlice, aExtract, bldParts, aggRes, aBuild, arrFs, bslParts, bslRes, bslE, aBuildSlice, mkSl, aMakeSlice, aLen, apRow, apE, apT, aAppend, aRange, nextS, aNext, aMkFunc, aCallV, VX, VXg, VXk, VXc, VXf, VXz, VQ, VQg, VQk, VQc, VQf, VQz, qk, pickT, putT, lks, tmpsOf, guardT, Op.operands, Call.operands, Jg, Option.toArray, Jh, Ji, Nat.reduceBEq, Nat.reduceAdd, Nat.reduceSub, Nat.reduceMul, Jj, Jk, Jl, Jm, Jn, Jo, Jp, Jq, Jr, Js, Jt, Ju, Jv, Jw, Jx, reduceIte, Nat.reduceLT, Nat.reduceLeDiff, Jy, reduceCtorEq, Jz, Ka, Kb, Kc, Kd, Ke, Kf, Kg, Kh, Ki, Kj, Kk, Kl, Km, Kn, Ko, Kp, Kq, Int.reduceLT, Int.reduceLE, Int.reduceGT, Int.reduceGE, Int.reduceAdd, Int.reduceSub, Int.reduceMul, Int.reduceNeg, Int.reduceBEq, Int.reduceEq, Int.reduceToNat, Kr, List.replicate_succ, Ks, Kt, Ku, Kv, renH, delAll, shift, rn, AO.ren, AV.ren, AV.rens, implies_true, pk0, tk3, tk22]
  refine ACall.det [] (by kernel_rfl) (g_clone l hl) (by simp only [ownAll, AV.ren, AV.rens, AV.und, AV.unds, AO.ren, AO.und, subH, apartH, apart1, belowAll, rn, lk, Nat.reduceBEq, beq_self_eq_true, Nat.reduceLT, Nat.reduceLeDiff, true_and, and_true, and_self, Option.some.injEq, ne_eq, not_true_eq_false, not_false_eq_true, Nat.reduceEqDiff, Nat.le_refl, AV.s] <;> try rfl) trivial ?_
  simp only [Tryd.f25, AWn, AWg, AWc, AWi, AWx, AWd, exitTo, slots, aEnd, aOut, jAV, aRet, retAV, tupOf, RF, RFo, release, release.rels, aop, ev, evs, evo, evl, constAV, strip, lk, guardOf, gd, Ja, Jb, Jc, St.put, Jd, Je, Jf, AV.s, AV.cells, FV.cells, AV.one, FV.okE, hset, hdel, aMove, aBin, resV, bopV, bopInt, bopStr, bopBool, aPick, aNot, aNeg, aXor, aConv, rdSl, aNil, newCells, aAlloc, aBox, ldAgg, aLoad, aStore, aStoreRow, writeAt, fldAt, aFieldAddr, partOf, aField, idxAddrE, arrAddrE, aIndexAddr, arrIdx, aIndex, bnds, slStr, slF, slO, aSlice, aExtract, bldParts, aggRes, aBuild, arrFs, bslParts, bslRes, bslE, aBuildSlice, mkSl, aMakeSlice, aLen, apRow, apE, apT, aAppend, aRange, nextS, aNext, aMkFunc, aCallV, VX, VXg, VXk, VXc, VXf, VXz, VQ, VQg, VQk, VQc, VQf, VQz, qk, pickT, putT, lks, tmpsOf, guardT, Op.operands, Call.operands, Jg, Option.toArray, Jh, Ji, Nat.reduceBEq, Nat.reduceAdd, Nat.reduceSub, Nat.reduceMul, Jj, Jk, Jl, Jm, Jn, Jo, Jp, Jq, Jr, Js, Jt, Ju, Jv, Jw, Jx, reduceIte, Nat.reduceLT, Nat.reduceLeDiff, Jy, reduceCtorEq, Jz, Ka, Kb, Kc, Kd, Ke, Kf, Kg, Kh, Ki, Kj, Kk, Kl, Km, Kn, Ko, Kp, Kq, Int.reduceLT, Int.reduceLE, Int.reduceGT, Int.reduceGE, Int.reduceAdd, Int.reduceSub, Int.reduceMul, Int.reduceNeg, Int.reduceBEq, Int.reduceEq, Int.reduceToNat, Kr, List.replicate_succ, Ks, Kt, Ku, Kv, renH, delAll, shift, rn, AO.ren, AV.ren, AV.rens, implies_true, pk0, tk3, tk22]
  refine ACall.det [] (by kernel_rfl) (g_sort l hl) (by simp only [ownAll, AV.ren, AV.rens, AV.und, AV.unds, AO.ren, AO.und, subH, apartH, apart1, belowAll, rn, lk, Nat.reduceBEq, beq_self_eq_true, Nat.reduceLT, Nat.reduceLeDiff, true_and, and_true, and_self, Option.some.injEq, ne_eq, not_true_eq_false, not_false_eq_true, Nat.reduceEqDiff, Nat.le_refl, AV.s] <;> try rfl) trivial ?_
  simp only [Tryd.f25, AWn, AWg, AWc, AWi, AWx, AWd, exitTo, slots, aEnd, aOut, jAV, aRet, retAV, tupOf, RF, RFo, release, release.rels, aop, ev, evs, evo, evl, constAV, strip, lk, guardOf, gd, Ja, Jb, Jc, St.put, Jd, Je, Jf, AV.s, AV.cells, FV.cells, AV.one, FV.okE, hset, hdel, aMove, aBin, resV, bopV, bopInt, bopStr, bopBool, aPick, aNot, aNeg, aXor, aConv, rdSl, aNil, newCells, aAlloc, aBox, ldAgg, aLoad, aStore, aStoreRow, writeAt, fldAt, aFieldAddr, partOf, aField, idxAddrE, arrAddrE, aIndexAddr, arrIdx, aIndex, bnds, slStr, slF, slO, aSlice, aExtract, bldParts, aggRes, aBuild, arrFs, bslParts, bslRes, bslE, aBuildSlice, mkSl, aMakeSlice, aLen, apRow, apE, apT, aAppend, aRange, nextS, aNext, aMkFunc, aCallV, VX, VXg, VXk, VXc, VXf, VXz, VQ, VQg, VQk, VQc, VQf, VQz, qk, pickT, putT, lks, tmpsOf, guardT, Op.operands, Call.operands, Jg, Option.toArray, Jh, Ji, Nat.reduceBEq, Nat.reduceAdd, Nat.reduceSub, Nat.reduceMul, Jj, Jk, Jl, Jm, Jn, Jo, Jp, Jq, Jr, Js, Jt, Ju, Jv, Jw, Jx, reduceIte, Nat.reduceLT, Nat.reduceLeDiff, Jy, reduceCtorEq, Jz, Ka, Kb, Kc, Kd, Ke, Kf, Kg, Kh, Ki, Kj, Kk, Kl, Km, Kn, Ko, Kp, Kq, Int.reduceLT, Int.reduceLE, Int.reduceGT, Int.reduceGE, Int.reduceAdd, Int.reduceSub, Int.reduceMul, Int.reduceNeg, Int.reduceBEq, Int.reduceEq, Int.reduceToNat, Kr, List.replicate_succ, Ks, Kt, Ku, Kv, renH, delAll, shift, rn, AO.ren, AV.ren, AV.rens, implies_true, pk0, tk3, tk22]
  have hlen : (l.mergeSort fun x y => decide (x ≤ y)).length = l.length := List.length_mergeSort ..
  have gc := g_compact (l.mergeSort fun x y => decide (x ≤ y)) (by rw [hlen]; exact hl)
  rw [hlen] at gc
  generalize (l.mergeSort fun x y => decide (x ≤ y)) = m at gc hQ ⊢
  refine ACall.det [] (by kernel_rfl) gc (by simp only [ownAll, AV.ren, AV.rens, AV.und, AV.unds, AO.ren, AO.und, subH, apartH, apart1, belowAll, rn, lk, Nat.reduceBEq, beq_self_eq_true, Nat.reduceLT, Nat.reduceLeDiff, true_and, and_true, and_self, Option.some.injEq, ne_eq, not_true_eq_false, not_false_eq_true, Nat.reduceEqDiff, Nat.le_refl, AV.s] <;> try rfl) trivial ?_
  simp only [Tryd.f25, AWn, AWg, AWc, AWi, AWx, AWd, exitTo, slots, aEnd, aOut, jAV, aRet, retAV, tupOf, RF, RFo, release, release.rels, aop, ev, evs, evo, evl, constAV, strip, lk, guardOf, gd, Ja, Jb, Jc, St.put, Jd, Je, Jf, AV.s, AV.cells, FV.cells, AV.one, FV.okE, hset, hdel, aMove, aBin, resV, bopV, bopInt, bopStr, bopBool, aPick, aNot, aNeg, aXor, aConv, rdSl, aNil, newCells, aAlloc, aBox, ldAgg, aLoad, aStore, aStoreRow, writeAt, fldAt, aFieldAddr, partOf, aField, idxAddrE, arrAddrE, aIndexAddr, arrIdx, aIndex, bnds, slStr, slF, slO, aSlice, aExtract, bldParts, aggRes, aBuild, arrFs, bslParts, bslRes, bslE, aBuildSlice, mkSl, aMakeSlice, aLen, apRow, apE, apT, aAppend, aRange, nextS, aNext, aMkFunc, aCallV, VX, VXg, VXk, VXc, VXf, VXz, VQ, VQg, VQk, VQc, VQf, VQz, qk, pickT, putT, lks, tmpsOf, guardT, Op.operands, Call.operands, Jg, Option.toArray, Jh, Ji, Nat.reduceBEq, Nat.reduceAdd, Nat.reduceSub, Nat.reduceMul, Jj, Jk, Jl, Jm, Jn, Jo, Jp, Jq, Jr, Js, Jt, Ju, Jv, Jw, Jx, reduceIte, Nat.reduceLT, Nat.reduceLeDiff, Jy, reduceCtorEq, Jz, Ka, Kb, Kc, Kd, Ke, Kf, Kg, Kh, Ki, Kj, Kk, Kl, Km, Kn, Ko, Kp, Kq, Int.reduceLT, Int.reduceLE, Int.reduceGT, Int.reduceGE, Int.reduceAdd, Int.reduceSub, Int.reduceMul, Int.reduceNeg, Int.reduceBEq, Int.reduceEq, Int.reduceToNat, Kr, List.replicate_succ, Ks, Kt, Ku, Kv, renH, delAll, shift, rn, AO.ren, AV.ren, AV.rens, implies_true, pk0, tk3, tk22]
  exact hQ _ _ _ (by simp [RF, RFo, release, release.rels, lk])
end Go.Proofs
