/-
  Fw7: each operation in the abstract machine is the model's (conversions, slices, builds, unary operations).
-/
import Derived.Test.YtddbbfonkgccnaaDoorFw6
set_option linter.unusedVariables false
namespace Go.Fw
section
variable {P : Program} {E : Ent} {N : Nat} {σ σ' : St} {ι : Nat → Loc} {S : Nat → Prop} {a : Act} {w : World} {need : Prop} {v : AV}

theorem s_not (hs : Sim E N σ ι S a w) {o : Oper} {T : TypeId} {x : Operand} (ho : o.op = .unOp .not T x) (h : aNot σ (ev σ x) = .val need v σ') (hn : need) : GoodS P σ ι S w (execOp a.eval o) v σ' := by
  unfold aNot at h
  split at h
  · rename_i c b h1
    obtain ⟨rfl, rfl, rfl⟩ := val_inj h
    have e1 := vr_v (ev_sound hs h1 hn)
    exact .same hs (y := .bool (!b)) (by simp [execOp, ho, e1, Op.unary]) (mk_v rfl)
  · cases h
theorem s_neg (hs : Sim E N σ ι S a w) {o : Oper} {T : TypeId} {x : Operand} (ho : o.op = .unOp .neg T x) (h : aNeg σ (ev σ x) = .val need v σ') (hn : need) : GoodS P σ ι S w (execOp a.eval o) v σ' := by
  unfold aNeg at h
  split at h
  · rename_i c k n h1
    obtain ⟨rfl, rfl, rfl⟩ := val_inj h
    have e1 := vr_v (ev_sound hs h1 hn)
    exact .same hs (y := .int k (k.wrap (0 - n))) (by simp [execOp, ho, e1, Op.unary, Op.intArith]) (mk_v rfl)
  · cases h
theorem s_xor (hs : Sim E N σ ι S a w) {o : Oper} {T : TypeId} {x : Operand} (ho : o.op = .unOp .xor T x) (h : aXor σ (ev σ x) = .val need v σ') (hn : need) : GoodS P σ ι S w (execOp a.eval o) v σ' := by
  unfold aXor at h
  split at h
  · rename_i c k n h1
    obtain ⟨rfl, rfl, rfl⟩ := val_inj h
    have e1 := vr_v (ev_sound hs h1 hn)
    exact .same hs (y := .int k (k.wrap (BitVec.ofInt k.bits (if k.signed then -1 else k.max) ^^^ BitVec.ofInt k.bits n).toNat)) (by simp [execOp, ho, e1, Op.unary, Op.intBits]) (mk_v rfl)
  · cases h
theorem s_nil (hs : Sim E N σ ι S a w) {o : Oper} {x : Operand} (ho : o.op = .nilCheck x) (h : aNil σ (ev σ x) = .val need v σ') (hn : need) : GoodS P σ ι S w (execOp a.eval o) v σ' := by
  unfold aNil at h
  split at h <;> first | (cases h; done) | skip
  · rename_i c id off h1
    obtain ⟨rfl, rfl, rfl⟩ := val_inj h
    have e0 := ev_sound hs h1 hn
    have e1 := e0
    simp only [VR] at e1
    obtain ⟨_, b, _, e1⟩ := e1
    rw [e1] at e0
    exact .same hs (by simp [execOp, ho, e1]) e0
  · rename_i c id sz i off h1
    obtain ⟨rfl, rfl, rfl⟩ := val_inj h
    have e0 := ev_sound hs h1 hn
    have e1 := e0
    simp only [VR] at e1
    obtain ⟨_, b, _, e1⟩ := e1
    rw [e1] at e0
    exact .same hs (by simp [execOp, ho, e1]) e0
  · rename_i c x' off h1
    obtain ⟨rfl, rfl, rfl⟩ := val_inj h
    have e0 := ev_sound hs h1 hn
    have e1 := e0
    simp only [VR, FR] at e1
    obtain ⟨b, oo, cs, T', fz, z, e1, _⟩ := e1
    rw [e1] at e0
    exact .same hs (by simp [execOp, ho, e1]) e0
  · rename_i c f p q h1
    obtain ⟨rfl, rfl, rfl⟩ := val_inj h
    have e0 := ev_sound hs h1 hn
    have e1 := e0
    simp only [VR] at e1
    obtain ⟨fs, cs, e1, _⟩ := e1
    rw [e1] at e0
    exact .same hs (by simp [execOp, ho, e1]) e0
  · rename_i c f p q h1
    obtain ⟨rfl, rfl, rfl⟩ := val_inj h
    have e0 := ev_sound hs h1 hn
    have e1 := e0
    simp only [VR, FR] at e1
    obtain ⟨fs, cs, e1, _⟩ := e1
    rw [e1] at e0
    exact .same hs (by simp [execOp, ho, e1]) e0

theorem rdSl_sound (hs : Sim E N σ ι S a w) {sz : Nat} {x : AV} {xs : List FV} {n : Prop} {y : Value} (h : rdSl σ sz x = some (n, xs)) (hn : n) (hv : VR S ι σ.n w x y) :
    (∃ p c, y = .slice p 0 c ∧ xs = []) ∨ (∃ b o c cs T fz, y = .slice (some ⟨b, o, none⟩) xs.length c ∧ w.heap[b]? = some (.cells cs T fz) ∧ FRrow S w sz xs (cs.toList.drop o)) := by
  unfold rdSl at h
  split at h
  · rename_i sz' ys
    simp only [Option.some.injEq, Prod.mk.injEq] at h; obtain ⟨rfl, rfl⟩ := h
    subst hn
    simp only [VR, FR] at hv
    rcases hv with ⟨rfl, p, c, e⟩ | ⟨b, o, c, cs, T, fz, e, _, hh, hr, _⟩
    · exact .inl ⟨p, c, e, rfl⟩
    · exact .inr ⟨b, o, c, cs, T, fz, e, hh, hr⟩
  · simp only [Option.some.injEq, Prod.mk.injEq] at h; obtain ⟨_, rfl⟩ := h
    exact .inl ⟨none, 0, vr_v hv, rfl⟩
  · rename_i id sz' off len
    split at h
    · rename_i T sz'' ys hl
      simp only [Option.some.injEq, Prod.mk.injEq] at h; obtain ⟨rfl, rfl⟩ := h
      obtain ⟨rfl, rfl, hle⟩ := hn
      simp only [VR] at hv
      obtain ⟨hid, ho⟩ := hs.mem.obj id _ hl
      obtain ⟨_, ⟨hb, _, rfl, _, e⟩ | ⟨b, o, hb, hcap, hoo, _, e⟩⟩ := hv
      · exact .inl ⟨none, 0, e, by simp⟩
      · rcases ho with ⟨hb', _⟩ | ⟨b', vs, hb', hh, hlc, hcm, hvs, hr⟩
        · rw [hb] at hb'; cases hb'
        · rw [hb] at hb'; simp only [Option.some.injEq] at hb'; subst hb'
          by_cases h0 : len = 0
          · subst h0; exact .inl ⟨_, _, e, by simp⟩
          · have hlen : ((ys.drop off).take len).length = len := by simp; omega
            have := hoo (by omega); subst this
            exact .inr ⟨b, off * sz'', _, vs, T, _, by rw [hlen]; exact e, hh, (hr.drop off).take len⟩
    · cases h
  · cases h

/-- a slice's cells, loaded -/
theorem row_cells {sz : Nat} : ∀ {xs : List FV} {ys : List Value}, FRrow S w sz xs ys → (∀ x ∈ xs, FV.isByte x) → sz = 1 → ∃ ns : List Int, ys.take xs.length = ns.map (Value.int .u8) ∧ xs = ns.map (fun m => FV.v (.int .u8 m))
  | [], _, _, _, _ => ⟨[], by simp⟩
  | x :: xs, ys, h, hb, e => by
    subst e
    simp only [FRrow] at h
    obtain ⟨⟨y, h1, h2, h3, _⟩, h4⟩ := h
    obtain ⟨ns, e1, e2⟩ := row_cells h4 (fun x hx => hb x (by simp [hx])) rfl
    have hx := hb x (by simp)
    cases x with
    | v q =>
      cases q with
      | int k m =>
        cases k <;> simp only [FV.isByte] at hx
        simp only [FR] at h1
        obtain ⟨rfl, _⟩ := h1
        simp only [Value.cells] at h2
        refine ⟨m :: ns, ?_, by simp [e2]⟩
        cases ys with
        | nil => simp at h2
        | cons y ys => simp at h2 e1 ⊢; exact ⟨h2.symm, e1⟩
      | _ => simp [FV.isByte] at hx
    | _ => simp [FV.isByte] at hx

theorem push_fold : ∀ (ns : List Int) (s : ByteArray), ns.foldl (fun r n => r.push (UInt8.ofNat n.toNat)) s = ⟨⟨bl s ++ ns.map (fun n => UInt8.ofNat n.toNat)⟩⟩
  | [], s => by simp [bl]
  | n :: ns, s => by
    rw [List.foldl_cons, push_fold ns]
    simp [bl]

theorem elem_u8 {e : TypeId} {q1 q2 : Nat} {q3 : Bool} {q4 : FV} (hk : tk P e = some ⟨q1, q2, q3, q4, .int .u8⟩) : P.underlying e = some (.int .u8) ∧ (q1 = 1) := by
  obtain ⟨i, d, z, hi, hu, hz, hsz, _, _, hd, _, _, h⟩ := tk_spec hk
  have := tdOf_int hd.symm; subst this
  refine ⟨hu, ?_⟩
  rcases h with h | h
  · simp [isAggD] at h
  · simp only at hsz; rw [hsz]; exact h.2.2.2

def vu8 (b : UInt8) : Value := .int .u8 b.toNat
theorem FRrow_u8 (S : Nat → Prop) (w : World) : ∀ (l : List UInt8) (r : List Value), FRrow S w 1 (l.map u8) (l.map vu8 ++ r)
  | [], _ => by simp [FRrow]
  | b :: l, r => by
    simp only [List.map_cons, FRrow, List.cons_append]
    refine ⟨⟨vu8 b, by simp [u8, vu8, FR, Value.oneCell'], by simp [vu8, Value.cells], rfl, by simp [vu8, Value.cells, Value.oneCell']⟩, ?_⟩
    simpa using FRrow_u8 S w l r

theorem run_stringToBytes (e : TypeId) (s : ByteArray) : ∃ cap w', (Conv.stringToBytes e s).run P w = .ok (.slice (some ⟨w.heap.size, 0, none⟩) s.size cap) w' ∧ Quiet w w' ∧ w.heap.size < w'.heap.size ∧ s.size ≤ cap ∧
    ∃ r fz, w'.heap[w.heap.size]? = some (.cells (((bl s).map vu8) ++ r).toArray e fz) := by
  have hcells : ∀ k : Nat, (s.data.map fun b => Value.int .u8 b.toNat) ++ Array.replicate k (Value.int .u8 0) = (((bl s).map vu8) ++ List.replicate k (Value.int .u8 0)).toArray := by
    intro k
    apply Array.ext'
    simp [bl, vu8]
  let cap := (Question.appendCap s.size 0 e).cut (w.tape w.drawn (.appendCap s.size 0 e))
  let cells : Array Value := (((bl s).map vu8) ++ List.replicate (cap - s.size) (Value.int .u8 0)).toArray
  have hsh : (w.drew.alloc (.cells cells e)).shape? w.heap.size = some (e, cells.size) := by
    simp only [World.shape?, show (w.drew.alloc (Obj.cells cells e)).heap[w.heap.size]? = some (.cells cells e) from heap_alloc_new w.drew _]
  refine ⟨cap, (w.drew.alloc (.cells cells e)).freeze ⟨w.heap.size, cells.size, none⟩ 1, ?_, ?_, ?_, by simp [cap, Question.cut], List.replicate (cap - s.size) (Value.int .u8 0), (cells.size, cells.size + 1), ?_⟩
  · simp only [Conv.stringToBytes, Sem.run_bind, run_choose, Question.forced, Bool.false_eq_true, if_false, Result.andThen_ok, newRow, run_newObj, Sem.run_pure, markStringish, run_shape, hcells, World.drew_eq, World.alloc_eq]
    have : ({ w with drawn := w.drawn + 1 } : World) = w.drew := rfl
    simp only [show w.drew.heap.size = w.heap.size from rfl]
    rw [show (w.drew.alloc (Obj.cells (((bl s).map vu8) ++ List.replicate ((Question.appendCap s.size 0 e).cut (w.tape w.drawn (.appendCap s.size 0 e)) - s.size) (Value.int .u8 0)).toArray e)).shape? w.heap.size = some (e, cells.size) from hsh]
    rfl
  · refine (Quiet.drew w).trans ⟨fun b hb => ?_, ?_, rfl, rfl, rfl⟩
    · have hb' : b < w.heap.size := hb
      simp only [World.freeze, Nat.one_ne_zero, if_false, Array.getElem?_modify]
      rw [if_neg (by omega)]
      exact (Quiet.alloc w.drew (.cells cells e)).heap b hb
    · simp [World.freeze]
  · simp [World.freeze]
  · simp only [World.freeze, Nat.one_ne_zero, if_false, Array.getElem?_modify, if_true, show (w.drew.alloc (Obj.cells cells e)).heap[w.heap.size]? = some (.cells cells e) from heap_alloc_new w.drew _]
    simp [cells]

theorem s_conv (hs : Sim E N σ ι S a w) {o : Oper} {T U : TypeId} {x : Operand} (ho : o.op = .convert T U x) (h : aConv (tk P) σ (ev σ x) (tk P T) (tk P U) = .val need v σ') (hn : need) : Good P E N a w (execOp a.eval o) v σ' := by
  unfold aConv at h
  split at h
  · rename_i c kk n _ _ _ _ _ _ _ _ _ k h1 hT hU
    obtain ⟨rfl, rfl, rfl⟩ := val_inj h
    obtain ⟨d1, hu1, hd1⟩ := tk_desc hT
    obtain ⟨d2, hu2, hd2⟩ := tk_desc hU
    have := tdOf_int hd1; subst this
    have := tdOf_int hd2; subst this
    have e1 := vr_v (ev_sound hs h1 hn)
    exact .same hs (y := .int k (k.wrap n)) (by simp [execOp, ho, e1, convert, run_underlying hu1, run_underlying hu2, Conv.intToInt]) (mk_v rfl)
  · rename_i c s _ _ _ _ _ _ _ _ h1 hT hU
    obtain ⟨rfl, rfl, rfl⟩ := val_inj h
    obtain ⟨d1, hu1, hd1⟩ := tk_desc hT
    obtain ⟨d2, hu2, hd2⟩ := tk_desc hU
    have := tdOf_str hd1; subst this
    have := tdOf_str hd2; subst this
    have e1 := vr_v (ev_sound hs h1 hn)
    exact .same hs (y := .string s) (by simp [execOp, ho, e1, convert, run_underlying hu1, run_underlying hu2]) (mk_v rfl)
  · rename_i c s _ _ _ _ _ _ _ _ e h1 hT hU
    split at h
    · rename_i hke
      obtain ⟨rfl, rfl, rfl⟩ := val_inj h
      obtain ⟨hc, hlen⟩ := hn
      obtain ⟨d1, hu1, hd1⟩ := tk_desc hT
      obtain ⟨d2, hu2, hd2⟩ := tk_desc hU
      have := tdOf_str hd1; subst this
      have := tdOf_slice hd2; subst this
      obtain ⟨hue, _⟩ := elem_u8 hke
      have e1 := vr_v (ev_sound hs h1 hc)
      obtain ⟨cap, w', hr, hq, hsz, hcap, r, fz, hh⟩ := run_stringToBytes (P := P) (w := w) e s
      have hs' := hs.quiet hq
      refine ⟨.slice (some ⟨w.heap.size, 0, none⟩) s.size cap, w', ι, fun b => S b ∨ b = w.heap.size, .inl ?_, hs'.more (fun b hb => .inl hb) ?_, ?_⟩
      · simp [execOp, ho, e1, convert, run_underlying hu1, run_underlying hu2, run_underlying hue, hr]
      · rintro b (hb | rfl)
        · exact .inl hb
        · refine .inr ⟨hsz, .inr hs.mem.size, fun id oo hl e => absurd (hs.mem.own id oo _ hl e).1 (by omega)⟩
      · simp only [VR, FR]
        refine .inr ⟨w.heap.size, 0, cap, _, e, fz, by rw [List.length_map, size_bl], .inr rfl, hh, by simpa using FRrow_u8 _ _ (bl s) r, ?_⟩
        rw [List.length_map, ← size_bl]; exact hcap
    · cases h
  · rename_i c u _ _ _ _ e _ _ _ _ _ h1 hT hU
    split at h
    · rename_i _ _ _ _ _ n xs hke hrd
      obtain ⟨rfl, rfl, rfl⟩ := val_inj h
      obtain ⟨hc, hn, hby⟩ := hn
      obtain ⟨d1, hu1, hd1⟩ := tk_desc hT
      obtain ⟨d2, hu2, hd2⟩ := tk_desc hU
      have := tdOf_slice hd1; subst this
      have := tdOf_str hd2; subst this
      obtain ⟨hue, _⟩ := elem_u8 hke
      have e1 := ev_sound hs h1 hc
      refine .same hs (y := str (xs.map fvByte)) ?_ (mk_v rfl)
      obtain ⟨p, cp, ey, rfl⟩ | ⟨b, oo, cp, cs, T', fz, ey, hh, hr⟩ := rdSl_sound hs hrd hn e1
      · simp only [execOp, ho, ey, Sem.run_bind, run_convert_bytes_string w _ _ _ _ _ _ hu1 hue hu2]
        cases p with
        | none => simp [Conv.bytesToString]; rfl
        | some p => rw [run_bytesToString w p 0 cp [] (by simp [loadCells, loadCellsFrom])]; simp; rfl
      · cases xs with
        | nil =>
          simp only [execOp, ho, ey, Sem.run_bind, run_convert_bytes_string w _ _ _ _ _ _ hu1 hue hu2, List.length_nil]
          rw [run_bytesToString w _ 0 cp [] (by simp [loadCells, loadCellsFrom])]; simp; rfl
        | cons x xs =>
          obtain ⟨ns, en, ex⟩ := row_cells hr hby rfl
          have hload : (loadCells ⟨b, oo, none⟩ (x :: xs).length).run P w = .ok (ns.map (Value.int .u8)).toArray w := by
            have hl : (x :: xs).length = (ns.map (Value.int .u8)).length := by rw [ex]; simp
            rw [hl]
            refine run_loadCells_list (P := P) w _ _ fun j q hj => ?_
            rw [add_off]
            refine cell_of hh ?_
            rw [← en] at hj
            have := sub_get hj
            rwa [List.getElem?_drop] at this
          simp only [execOp, ho, ey, Sem.run_bind, run_convert_bytes_string w _ _ _ _ _ _ hu1 hue hu2]
          rw [run_bytesToString w _ _ cp ns hload, push_fold, ex]
          simp [bl, fvByte, Function.comp_def]
    · cases h
  · cases h
end
end Go.Fw
