/-
  Fw5: each operation in the abstract machine is the model's (operations that turn no memory).
-/
import Derived.Test.YtddbbfonkgccnaaDoorFw4
import Derived.Laws.Cells
import Derived.Laws.StructEq
import Derived.Laws.BytesString
import Derived.Laws.MakeOwn
import Derived.Laws.RangeString
import Derived.Laws.Slices
import Derived.WideLaws
set_option linter.unusedVariables false
namespace Go.Fw
section
variable {P : Program} {E : Ent} {N : Nat} {σ σ' : St} {ι : Nat → Loc} {S : Nat → Prop} {a : Act} {w : World} {need : Prop} {v : AV}

theorem val_inj {n n' : Prop} {v v' : AV} {s s' : St} (h : Res.val n v s = .val n' v' s') : n = n' ∧ v = v' ∧ s = s' := by injection h with a b c; exact ⟨a, b, c⟩

theorem s_move (hs : Sim E N σ ι S a w) {x : Operand} (h : aMove σ (ev σ x) = .val need v σ') (hn : need) : σ' = σ ∧ VR S ι σ.n w v (a.eval x) := by
  unfold aMove at h
  split at h
  · rename_i c u hu
    obtain ⟨rfl, rfl, rfl⟩ := val_inj h
    exact ⟨rfl, ev_sound hs hu hn⟩
  · cases h

theorem vr_bool {b : Bool} {y : Value} {n : Nat} (h : VR S ι n w (.f (.v (.bool b))) y) : y = .bool b := by simp only [VR, FR] at h; exact h.1
theorem vr_int {k : IntKind} {m : Int} {y : Value} {n : Nat} (h : VR S ι n w (.f (.v (.int k m))) y) : y = .int k m := by simp only [VR, FR] at h; exact h.1
theorem vr_v {x y : Value} {n : Nat} (h : VR S ι n w (.f (.v x)) y) : y = x := by simp only [VR, FR] at h; exact h.1
theorem mk_v {x : Value} {n : Nat} (h : x.oneCell' = true) : VR S ι n w (.s x) x := by simp only [VR, FR]; exact ⟨trivial, h⟩

theorem s_pick (hs : Sim E N σ ι S a w) {o : Oper} {x y z : Operand} (ho : o.op = .pick x y z) (h : aPick σ (ev σ x) (ev σ y) (ev σ z) = .val need v σ') (hn : need) : GoodS P σ ι S w (execOp a.eval o) v σ' := by
  unfold aPick at h
  split at h
  · rename_i c1 c c2 p c3 q h1 h2 h3
    obtain ⟨rfl, rfl, rfl⟩ := val_inj h
    have e1 := vr_bool (ev_sound hs h1 hn.1)
    cases c with
    | true =>
      have e2 := vr_bool (ev_sound hs h2 (hn.2.1 rfl))
      exact .same hs (y := .bool p) (by simp [execOp, ho, e1, e2, asBool]) (mk_v rfl)
    | false =>
      have e2 := vr_bool (ev_sound hs h3 (hn.2.2 rfl))
      exact .same hs (y := .bool q) (by simp [execOp, ho, e1, e2, asBool]) (mk_v rfl)
  · cases h

theorem toListBytes (s : ByteArray) : s.toList = bl s := ByteArray.toList_eq s

theorem bopInt_run (op : BinOp) (T : TypeId) (k k' : IntKind) (x y : Int) (hn : (bopInt op k x k' y).1) : (binOp op T (.int k x) (.int k' y)).run P w = .ok (bopInt op k x k' y).2 w := by
  cases op <;> simp only [bopInt] at hn ⊢
  case shl => simp [binOp, Op.shift, Int.not_lt.2 hn]
  case shr => simp [binOp, Op.shift, Int.not_lt.2 hn]
  case quo => obtain ⟨rfl, h2⟩ := hn; simp [binOp, Op.intDiv, h2]
  case rem => obtain ⟨rfl, h2⟩ := hn; simp [binOp, Op.intDiv, h2]
  all_goals (subst hn; simp [binOp, Op.intArith, Op.intBits, Op.intCmp])

theorem bopInt_one (op : BinOp) (k k' : IntKind) (x y : Int) : (bopInt op k x k' y).2.oneCell' = true := by cases op <;> rfl

theorem size_bl (s : ByteArray) : s.size = (bl s).length := by simp [bl]
theorem append_bl (s t : ByteArray) : s ++ t = ⟨⟨bl s ++ bl t⟩⟩ := by
  apply ByteArray.ext
  apply Array.ext'
  simp [bl]
theorem bopStr_run {op : BinOp} {T : TypeId} {s t : ByteArray} {n : Prop} {r : Value} (h : bopStr op (bl s) (bl t) = some (n, r)) (hn : n) : (binOp op T (.string s) (.string t)).run P w = .ok r w ∧ r.oneCell' = true := by
  cases op <;> simp only [bopStr, Option.some.injEq, Prod.mk.injEq, reduceCtorEq] at h <;> obtain ⟨rfl, rfl⟩ := h <;> refine ⟨?_, rfl⟩ <;> simp [binOp, Op.stringOp, toListBytes]
  have hle : ¬ (9223372036854775807 : Int) < (s.size : Int) + (t.size : Int) := by rw [size_bl, size_bl]; omega
  rw [if_neg (by simpa [IntKind.max, IntKind.bits, IntKind.signed] using hle), append_bl]

theorem s_bin (hs : Sim E N σ ι S a w) {o : Oper} {op : BinOp} {T U : TypeId} {x y : Operand} (ho : o.op = .binOp op T x y U) (h : aBin (tk P) σ op T (ev σ x) (ev σ y) = .val need v σ') (hn : need) : GoodS P σ ι S w (execOp a.eval o) v σ' := by
  unfold aBin at h
  split at h
  · rename_i c p d q h1 h2
    unfold resV at h
    split at h
    · rename_i n r hb
      obtain ⟨rfl, rfl, rfl⟩ := val_inj h
      obtain ⟨⟨hc, hd⟩, hn⟩ := hn
      have e1 := vr_v (ev_sound hs h1 hc)
      have e2 := vr_v (ev_sound hs h2 hd)
      have key : (eqGuard op T x y p q).run P w = .ok () w ∧ (binOp op T p q).run P w = .ok r w ∧ r.oneCell' = true := by
        unfold bopV at hb
        split at hb
        · simp only [Option.some.injEq] at hb
          rw [Prod.ext_iff] at hb
          obtain ⟨hb1, hb2⟩ := hb
          simp only at hb1 hb2
          subst hb1 hb2
          refine ⟨by cases op <;> simp [eqGuard], bopInt_run op T _ _ _ _ hn, bopInt_one _ _ _ _ _⟩
        · exact ⟨by cases op <;> simp [eqGuard], bopStr_run hb hn⟩
        · split at hb
          · rename_i hk
            obtain ⟨i, dd, z, hi, hu, hz, _, _, _, hdesc, _⟩ := tk_spec hk
            have hdb : dd = .bool := by
              cases dd <;> simp [tdOf] at hdesc
              · rfl
              · split at hdesc <;> cases hdesc
            subst hdb
            refine ⟨by cases op <;> simp [eqGuard], ?_⟩
            cases op <;> simp only [bopBool, Option.some.injEq, Prod.mk.injEq, reduceCtorEq] at hb <;> obtain ⟨rfl, rfl⟩ := hb
            · exact ⟨run_eql_bool _ _ _ _ hu, rfl⟩
            · exact ⟨run_neq_bool _ _ _ _ hu, rfl⟩
          · cases hb
        · cases hb
      refine .same hs (y := r) ?_ (mk_v key.2.2)
      simp [execOp, ho, e1, e2, key.1, key.2.1]
    · cases h
  · cases h

/- loads -/
theorem add_off (b o n : Nat) : (⟨b, o, none⟩ : Addr).add n = ⟨b, o + n, none⟩ := by
  unfold Addr.add; split <;> simp_all
theorem isAgg_run {t : TypeId} {d : TypeDesc} (hu : P.underlying t = some d) : (isAgg t).run P w = .ok (isAggD d) w := by
  unfold isAgg
  simp only [Sem.run_bind, run_underlying hu, Result.andThen_ok]
  cases d <;> rfl
theorem sizeOf_run {t : TypeId} {i : TypeInfo} (hi : P.info? t = some i) : (sizeOf t).run P w = .ok i.size w := by
  simp [sizeOf, typeInfo, hi]
theorem load_agg {t : TypeId} {k : TK} (hk : tk P t = some k) (ha : k.agg = true) {b o : Nat} {vs : Array Value} {T : TypeId} {fz : Nat × Nat} (hb : w.heap[b]? = some (.cells vs T fz)) (hle : ((vs.toList.drop o).take k.sz).length = k.sz) :
    (loadVar t ⟨b, o, none⟩).run P w = .ok (.agg ((vs.toList.drop o).take k.sz).toArray) w := by
  obtain ⟨i, d, z, hi, hu, hz, hsz, _, _, _, _, _, h⟩ := tk_spec hk
  have hd : isAggD d = true := by
    rcases h with h | h
    · exact h.2.2
    · rw [h.1] at ha; cases ha
  unfold loadVar
  simp only [Sem.run_bind, isAgg_run hu, hd, Result.andThen_ok, if_true, sizeOf_run hi]
  have hlen : ((vs.toList.drop o).take k.sz).length = i.size := by rw [hle, hsz]
  have := run_loadCells_list (P := P) w ⟨b, o, none⟩ ((vs.toList.drop o).take k.sz) (fun j v hj => by
    rw [add_off]
    refine cell_of hb ?_
    rw [List.getElem?_take] at hj
    split at hj
    · simpa using hj
    · cases hj)
  rw [hlen] at this
  simp [this]
theorem load_one {t : TypeId} {k : TK} (hk : tk P t = some k) (ha : k.agg = false) {b o : Nat} {vs : Array Value} {T : TypeId} {fz : Nat × Nat} (hb : w.heap[b]? = some (.cells vs T fz)) {y : Value} (hy : vs.toList[o]? = some y) :
    (loadVar t ⟨b, o, none⟩).run P w = .ok y w := by
  obtain ⟨i, d, z, hi, hu, hz, hsz, _, _, _, _, _, h⟩ := tk_spec hk
  have hd : isAggD d = false := by
    rcases h with h | h
    · rw [h.1] at ha; cases ha
    · exact h.2.2.1
  unfold loadVar
  simp [isAgg_run hu, hd, cell_of hb hy]

theorem sub_get {α : Type} {l : List α} {n off : Nat} {z : α} (h : (l.take n)[off]? = some z) : l[off]? = some z := by
  rw [List.getElem?_take] at h
  split at h
  · exact h
  · cases h
theorem getD_of_lt {α : Type} {l : List α} {i : Nat} (h : i < l.length) (d : α) : l[i]? = some (l.getD i d) := by simp [List.getD, List.getElem?_eq_getElem h]
theorem take_drop_take {α : Type} (l : List α) (n off sz : Nat) (h : off + sz ≤ n) : ((l.take n).drop off).take sz = (l.drop off).take sz := by
  rw [List.drop_take, List.take_take, Nat.min_eq_left (by omega)]

theorem load_core (hs : Sim E N σ ι S a w) {T : TypeId} {x : Operand} (h : aLoad σ (ev σ x) (tk P T) = .val need v σ') (hn : need) :
    σ' = σ ∧ ∃ y b o, a.eval x = .pointer (some ⟨b, o, none⟩) ∧ (loadVar T ⟨b, o, none⟩).run P w = .ok y w ∧ VR S ι σ.n w v y := by
  unfold aLoad at h
  split at h
  · rename_i c id off k h1 hk
    split at h
    · rename_i U cs hl
      obtain ⟨hid, b, vs, hb, hh, hv, hone⟩ := hs.mem.obj id _ hl
      unfold ldAgg at h
      split at h <;> rename_i ha <;> obtain ⟨rfl, rfl, rfl⟩ := val_inj h <;> have e1 := ev_sound hs h1 hn.1 <;> simp only [VR] at e1 <;> obtain ⟨_, b', hb', e1⟩ := e1 <;> rw [hb] at hb' <;> simp only [Option.some.injEq] at hb' <;> subst hb'
      · have hlen := hv.length
        refine ⟨rfl, .agg ((vs.toList.drop off).take k.sz).toArray, _, _, e1, ?_, ?_⟩
        · exact load_agg hk ha hh (show ((vs.toList.drop off).take k.sz).length = k.sz by rw [List.length_take, List.length_drop, hlen]; omega)
        · simp only [VR]
          exact ⟨_, rfl, (hv.drop off).take k.sz, fun z hz => hone z (List.mem_of_mem_drop (List.mem_of_mem_take hz))⟩
      · obtain ⟨y, hy, hvy⟩ := hv.get (getD_of_lt hn.2 (.f k.zero))
        refine ⟨rfl, y, _, _, e1, ?_, hvy⟩
        exact load_one hk ha hh hy
    · cases h
  · rename_i c id sz i off k h1 hk
    split at h
    · rename_i U sz' xs hl
      obtain ⟨hid, ho'⟩ := hs.mem.obj id _ hl
      unfold ldAgg at h
      split at h <;> rename_i ha <;> obtain ⟨rfl, rfl, rfl⟩ := val_inj h <;> have e1 := ev_sound hs h1 hn.1 <;> simp only [VR] at e1 <;> obtain ⟨_, b', hb', e1⟩ := e1 <;> obtain ⟨_, rfl, hi, hoff⟩ := hn
      · rcases ho' with ⟨hb, _⟩ | ⟨b, vs, hb, hh, hlc, hcm, hvs, hr⟩
        · rw [hb] at hb'; cases hb'
        rw [hb] at hb'; simp only [Option.some.injEq] at hb'; subst hb'
        obtain ⟨y, hy1, hy2, hy3, hy4⟩ := hr.get (getD_of_lt hi k.zero)
        have hsub : (vs.toList.drop (i * sz + off)).take k.sz = (y.cells.toList.drop off).take k.sz := by
          rw [hy2, take_drop_take _ _ _ _ hoff, List.drop_drop]
        refine ⟨rfl, .agg ((vs.toList.drop (i * sz + off)).take k.sz).toArray, _, _, e1, ?_, ?_⟩
        · have hle : ((vs.toList.drop (i * sz + off)).take k.sz).length = k.sz := by
            rw [hsub, List.length_take, List.length_drop, Array.length_toList]; omega
          exact load_agg hk ha hh hle
        · simp only [VR, FR]
          rw [hsub]
          exact ⟨_, rfl, (hy1.cells.drop off).take k.sz, fun z hz => hy4 z (List.mem_of_mem_drop (List.mem_of_mem_take hz))⟩
      · rcases ho' with ⟨hb, _⟩ | ⟨b, vs, hb, hh, hlc, hcm, hvs, hr⟩
        · rw [hb] at hb'; cases hb'
        rw [hb] at hb'; simp only [Option.some.injEq] at hb'; subst hb'
        obtain ⟨y, hy1, hy2, hy3, hy4⟩ := hr.get (getD_of_lt hi k.zero)
        have hc := hy1.cells
        have hl' := hc.length
        obtain ⟨z, hz, hvz⟩ := hc.get (getD_of_lt (show off < (xs.getD i k.zero).cells.length by rw [← hl']; simp only [Array.length_toList]; omega) k.zero)
        have hz' : vs.toList[i * sz + off]? = some z := by
          rw [hy2] at hz
          have := sub_get hz
          rwa [List.getElem?_drop] at this
        refine ⟨rfl, z, _, _, e1, ?_, by simpa only [VR] using hvz⟩
        exact load_one hk ha hh hz'
    · cases h
  · rename_i c x off k h1 hk
    unfold ldAgg at h
    split at h <;> rename_i ha <;> obtain ⟨rfl, rfl, rfl⟩ := val_inj h <;> have e1 := ev_sound hs h1 hn.1 <;> simp only [VR, FR] at e1 <;> obtain ⟨b, o', cs, T', fz, y, e1, hb, hh, hy1, hy2, hy4⟩ := e1 <;> have hl' := hy1.cells.length
    · have hoff : off + k.sz ≤ y.cells.size := by have := hn.2; simp only [Array.length_toList] at hl'; omega
      have hsub : (cs.toList.drop (o' + off)).take k.sz = (y.cells.toList.drop off).take k.sz := by
        rw [← hy2, take_drop_take _ _ _ _ hoff, List.drop_drop]
      refine ⟨rfl, .agg ((cs.toList.drop (o' + off)).take k.sz).toArray, _, _, e1, ?_, ?_⟩
      · have hle : ((cs.toList.drop (o' + off)).take k.sz).length = k.sz := by
          rw [hsub, List.length_take, List.length_drop, Array.length_toList]; omega
        exact load_agg hk ha hh hle
      · simp only [VR, FR]
        rw [hsub]
        exact ⟨_, rfl, (hy1.cells.drop off).take k.sz, fun z hz => hy4 z (List.mem_of_mem_drop (List.mem_of_mem_take hz))⟩
    · obtain ⟨z, hz, hvz⟩ := hy1.cells.get (getD_of_lt hn.2 k.zero)
      have hz' : cs.toList[o' + off]? = some z := by
        rw [← hy2] at hz
        have := sub_get hz
        rwa [List.getElem?_drop] at this
      refine ⟨rfl, z, _, _, e1, ?_, by simpa only [VR] using hvz⟩
      exact load_one hk ha hh hz'
  · cases h

theorem s_load (hs : Sim E N σ ι S a w) {o : Oper} {T : TypeId} {x : Operand} (ho : o.op = .load T x) (h : aLoad σ (ev σ x) (tk P T) = .val need v σ') (hn : need) : GoodS P σ ι S w (execOp a.eval o) v σ' := by
  obtain ⟨rfl, y, b, off, e1, hr, hv⟩ := load_core hs h hn
  refine .same hs (y := y) ?_ hv
  simp [execOp, ho, e1, Instr.loadAt, Instr.sureAddr, hr]
end
end Go.Fw
