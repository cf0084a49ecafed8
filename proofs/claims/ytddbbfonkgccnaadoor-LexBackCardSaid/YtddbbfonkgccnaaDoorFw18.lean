/-
  Fw18: operations shown by hand: pointers compared, pointers seen as others, calls of what stands in for a function without code.
-/
import Derived.Test.YtddbbfonkgccnaaDoorFw17
import Derived.LaidEqlPtr
import Derived.Laws.Pointers
import Derived.Laws.Externs
import Derived.Lib.Builder
import Derived.Lib.AppendStr
import Derived.Lib.UnsafeStr
set_option linter.unusedVariables false
set_option linter.unusedSimpArgs false
namespace Go.Fw
open Go
section
variable {C : Cx} {n : Nat} {all os : List Oper} {o : Oper} {k : List Item} {σ : St}

theorem good_bin {E : Ent} {N : Nat} {σ : St} {ι : Nat → Loc} {S : Nat → Prop} {a : Act} {w : World} {P : Program} {o : Oper} {op : BinOp} {T U : TypeId} {x y : Operand} {p q : Value} {r : Bool} (hs : Sim E N σ ι S a w) (ho : o.op = .binOp op T x y U)
    (e1 : a.eval x = p) (e2 : a.eval y = q) (hg : (eqGuard op T x y p q).run P w = .ok () w) (hr : (binOp op T p q).run P w = .ok (.bool r) w) : Good P E N a w (execOp a.eval o) (.s (.bool r)) σ :=
  .same hs (y := .bool r) (by simp [execOp, ho, e1, e2, hg, hr]) (mk_v rfl)

/-- a pointer to an object is not nil -/
theorem AW.eqNil {T U : TypeId} {x : Operand} {id off : Nat} (hgd : o.guard = none) (ho : o.op = .binOp .eql T x (.const (.pointer none)) U) (hx : ev σ x = some (true, .ptr id off))
    (hT : C.P.underlying T = some (.pointer (C.P.pointee T))) (hk : AWn C n all os k (σ.put o.dst (.s (.bool false)))) : AW C all (o :: os) k σ := by
  refine AW.op _ hgd (fun ι S a w hs => ?_) hk
  have e1 := ev_sound hs hx rfl
  simp only [VR] at e1
  obtain ⟨_, b, hb, e1⟩ := e1
  exact good_bin hs ho e1 rfl (by simp [eqGuard, Act.eval]) (by simpa [Act.eval] using run_eql_pointer_nil w T (some ⟨b, off, none⟩) hT)
/-- nil is nil -/
theorem AW.nilNil {T U : TypeId} {x : Operand} (hgd : o.guard = none) (ho : o.op = .binOp .eql T x (.const (.pointer none)) U) (hx : ev σ x = some (true, .f (.v (.pointer none))))
    (hT : C.P.underlying T = some (.pointer (C.P.pointee T))) (hk : AWn C n all os k (σ.put o.dst (.s (.bool true)))) : AW C all (o :: os) k σ := by
  refine AW.op _ hgd (fun ι S a w hs => ?_) hk
  have e1 := vr_v (ev_sound hs hx rfl)
  exact good_bin hs ho e1 rfl (by simp [eqGuard, Act.eval]) (by simpa [Act.eval] using run_eql_pointer_nil w T none hT)
/-- a pointer differs not from itself -/
theorem AW.neSelf {T U te : TypeId} {x y : Operand} {id off : Nat} {kk : TK} (hgd : o.guard = none) (ho : o.op = .binOp .neq T x y U) (hx : ev σ x = some (true, .ptr id off)) (hy : ev σ y = some (true, .ptr id off))
    (hT : C.P.underlying T = some (.pointer te)) (hkk : tk C.P te = some kk) (hk : AWn C n all os k (σ.put o.dst (.s (.bool false)))) : AW C all (o :: os) k σ := by
  refine AW.op _ hgd (fun ι S a w hs => ?_) hk
  have e1 := ev_sound hs hx rfl
  have e2 := ev_sound hs hy rfl
  simp only [VR] at e1 e2
  obtain ⟨_, b, hb, e1⟩ := e1
  obtain ⟨_, b', hb', e2⟩ := e2
  rw [hb] at hb'; simp only [Option.some.injEq] at hb'; subst hb'
  obtain ⟨j, _, _, hte, _⟩ := tk_spec hkk
  refine good_bin hs ho e1 e2 (by simp [eqGuard]) ?_
  have h : ∀ d : Nat, (Op.equalIn (d + 1) T (.pointer (some ⟨b, off, none⟩)) (.pointer (some ⟨b, off, none⟩))).run C.P w = .ok true w := fun d => by
    simp [Op.equalIn, run_underlying hT, sizeOf, typeInfo, hte, run_sameAddr_same]
  simp only [binOp]
  simp [Op.equal, Op.maxDepth, h 9999]

theorem shape_of {w : World} {b : Nat} {vs : Array Value} {T : TypeId} (h : w.heap[b]? = some (.cells vs T (0, 0))) : w.shape? b = some (T, vs.size) := by
  simp [World.shape?, h]

/-- a pointer seen as no type's -/
theorem AW.toUnsafe {src dst t : TypeId} {x : Operand} {id off : Nat} {T : TypeId} {cs : List AV} {kk : TK} (hgd : o.guard = none) (ho : o.op = .convert src dst x) (hx : ev σ x = some (true, .ptr id off)) (hl : lk id σ.h = some (.cells T cs))
    (hs' : C.P.underlying src = some (.pointer t)) (hd' : C.P.underlying dst = some .unsafePointer) (hkk : tk C.P t = some kk) (hj : kk.sz ≠ 0) (hoff : off < cs.length) (hk : AWn C n all os k (σ.put o.dst (.ptr id off))) : AW C all (o :: os) k σ := by
  refine AW.op _ hgd (fun ι S a w hs => ?_) hk
  have e0 := ev_sound hs hx rfl
  have e1 := e0
  simp only [VR] at e1
  obtain ⟨_, b, hb, e1⟩ := e1
  obtain ⟨hid, b', vs, hb', hh, hv, hone⟩ := hs.mem.obj id _ hl
  rw [hb] at hb'; simp only [Option.some.injEq] at hb'; subst hb'
  have hlen := hv.length
  obtain ⟨j, _, _, ht, _, _, hsz, _⟩ := tk_spec hkk
  have := Lib.run_to_unsafe (P := C.P) w ⟨b, off, none⟩ hs' hd' ht (by rw [← hsz]; exact hj) (shape_of hh) (by show off < vs.size; simp only [Array.length_toList] at hlen; omega)
  exact .same hs (y := .pointer (some ⟨b, off, none⟩)) (by simp [execOp, ho, e1, this]) (by rw [e1] at e0; exact e0)
/-- .. and back -/
theorem AW.fromUnsafe {src dst u : TypeId} {x : Operand} {id off : Nat} {T : TypeId} {cs : List AV} {kk : TK} (hgd : o.guard = none) (ho : o.op = .convert src dst x) (hx : ev σ x = some (true, .ptr id off)) (hl : lk id σ.h = some (.cells T cs))
    (hs' : C.P.underlying src = some .unsafePointer) (hd' : C.P.underlying dst = some (.pointer u)) (hkk : tk C.P u = some kk) (hlies : liesAt C.P C.P.depth T (cs.length / C.P.cellsOf T) off u 1 = true) (hk : AWn C n all os k (σ.put o.dst (.ptr id off))) : AW C all (o :: os) k σ := by
  refine AW.op _ hgd (fun ι S a w hs => ?_) hk
  have e0 := ev_sound hs hx rfl
  have e1 := e0
  simp only [VR] at e1
  obtain ⟨_, b, hb, e1⟩ := e1
  obtain ⟨hid, b', vs, hb', hh, hv, hone⟩ := hs.mem.obj id _ hl
  rw [hb] at hb'; simp only [Option.some.injEq] at hb'; subst hb'
  have hlen := hv.length
  simp only [Array.length_toList] at hlen
  obtain ⟨j, _, _, ht, _⟩ := tk_spec hkk
  have := Lib.run_from_unsafe (P := C.P) w ⟨b, off, none⟩ hs' hd' ht (shape_of hh) (by rw [hlen]; exact hlies)
  exact .same hs (y := .pointer (some ⟨b, off, none⟩)) (by simp [execOp, ho, e1, this]) (by rw [e1] at e0; exact e0)

/-- a call of a function that has no code, by what stands in for it -/
theorem ACall.extern {c : Bool} {need : Prop} {f : FuncId} {args : List AV} {fn : Func} {e : Array Value → Sem Value} (v : AV) (hf : C.P.funcs[f]? = some fn) (hname : (fn.name == "runtime.NumGoroutine") = false) (hb : fn.body.isNone = true) (hnx : Extern.findNext fn = none) (he : Extern.find fn = some e)
    (hgd : o.guard = none) (hn : need)
    (hrun : ∀ S ι w vals, VRs S ι σ.n w args vals.toList → ∃ y, (e vals).run C.P w = .ok y w ∧ VR S ι σ.n w v y) (hk : AWn C n all os k (σ.put o.dst v)) : ACall C n all o os k σ c need f args := by
  intro hg hop
  refine AW.op _ hgd (fun ι S a w hs => ?_) hk
  obtain ⟨cl, x, ho, hcal, hcall⟩ := call_val hop
  -- as in s_call, with the stand-in's answer
  unfold aCallV at hcall
  have key : ∀ (fs cs vs' : List AV) (fsv csv : Array Value), a.eval x = .func (.func f) fsv csv → VRs S ι σ.n w (fs ++ (vs' ++ cs)) (fsv ++ cl.args.map a.eval ++ csv).toList → args = fs ++ (vs' ++ cs) → Good C.P C.E C.N a w (execOp a.eval o) v σ := by
    intro fs cs vs' fsv csv ef hv hargs
    obtain ⟨y, hr, hvy⟩ := hrun S ι w (fsv ++ cl.args.map a.eval ++ csv) (by rw [hargs]; exact hv)
    have hcf := run_callFunc_extern (P := C.P) hf hname hb hnx he (fsv ++ cl.args.map a.eval ++ csv) w
    rw [hr] at hcf
    refine .same hs (y := y) ?_ hvy
    simp only [Result.andThen_ok] at hcf
    rw [Array.append_assoc] at hcf
    simp [execOp, ho, resolve, hcal, Deferred.ofValue, ef, invoke, hcf]
  split at hcall
  · rename_i c1 f' first cap c2 vs h1 h2
    injection hcall with e1 e2 e3
    subst e1 e2 e3
    have k1 := ev_sound hs h1 hn.1
    simp only [VR] at k1
    obtain ⟨fs, cs, ef, hfs, hcs⟩ := k1
    refine key first cap vs fs cs ef ?_ rfl
    simp only [Array.toList_append, Array.toList_map, List.append_assoc]
    exact hfs.append ((evl_sound hs h2 hn.2).append hcs)
  · rename_i c1 f' first cap c2 vs h1 h2
    injection hcall with e1 e2 e3
    subst e1 e2 e3
    have k1 := ev_sound hs h1 hn.1
    simp only [VR, FR] at k1
    obtain ⟨fs, cs, ef, hfs, hcs⟩ := k1
    refine key (first.map .f) (cap.map .f) vs fs cs ef ?_ rfl
    simp only [Array.toList_append, Array.toList_map, List.append_assoc]
    exact (VRs_map_f.2 hfs).append ((evl_sound hs h2 hn.2).append (VRs_map_f.2 hcs))
  · cases hcall

def ownAll (τ : List (Nat × Nat)) (n0 : Nat) (h0 : Heap) (as args : List AV) (h : Heap) (m : Nat) : Prop :=
  args = AV.rens (rn τ) as ∧ AV.unds n0 as ∧ subH τ n0 h h0 ∧ apartH τ h0 ∧ belowAll τ m n0
/-- a promise that tells the end just so -/
def GD (P : Program) (f : FuncId) (n0 : Nat) (h0 : Heap) (args : List AV) (av1 : AV) (h1 : Heap) (n1 : Nat) : Prop := GC P f n0 h0 args fun av σ => av = av1 ∧ σ = ⟨[], h1, n1⟩
theorem ACall.det {need : Prop} {f : FuncId} {args : List AV} (τ : List (Nat × Nat)) {n0 : Nat} {h0 : Heap} {as : List AV} {av1 : AV} {h1 : Heap} {n1 : Nat} (hf : enters C.P f = true) (hgc : GD C.P f n0 h0 as av1 h1 n1) (ha : ownAll τ n0 h0 as args σ.h σ.n) (hn : need)
    (hk : AWn C n all os k (St.put ⟨σ.t, renH (shift τ n0 σ.n) h1 ++ delAll τ h0 σ.h, σ.n + (n1 - n0)⟩ o.dst (av1.ren (shift τ n0 σ.n)))) : ACall C n all o os k σ true need f args := by
  refine ACall.own τ hf hgc ha.1 ha.2.1 ha.2.2.1 ha.2.2.2.1 ha.2.2.2.2 hn ?_
  rintro av h m ⟨rfl, e⟩
  injection e with _ e1 e2
  subst e1 e2
  exact hk
/-- an operation shown by hand that turns the state -/
theorem AW.op' {v : AV} {σ' : St} (hgd : o.guard = none) (h : ∀ ι S a w, Sim C.E C.N σ ι S a w → Good C.P C.E C.N a w (execOp a.eval o) v σ') (hk : AWn C n all os k (σ'.put o.dst v)) : AW C all (o :: os) k σ := by
  intro ok hsuf hok hki ι S a w hs
  have hd := okOps_mem hok (hsuf.subset (List.mem_cons_self ..))
  have hsuf' : os <:+ all := (List.suffix_cons o os).trans hsuf
  have hg : guardOf all σ o.guard = some true := by rw [hgd]; rfl
  refine at_step (σ := σ) ?_ ?_ hs hg hsuf hok
  · intro c' hc' _
    refine wp_of_good (h ι S a w hs) hd ?_
    intro ι' S' a' w' hs'
    exact AWn_sound _ _ _ _ _ hk ok hsuf' hok hki ι' S' a' w' hs'
  · intro c' hc' hct
    rw [hg] at hc'; simp only [Option.some.injEq] at hc'
    rw [← hc'] at hct; cases hct

theorem take_len_map {α β : Type} (f : α → β) (l : List α) : (l.map f).take l.length = l.map f := by
  rw [List.take_of_length_le (by simp)]
theorem take_len_append {α : Type} (l l' : List α) : (l ++ l').take l.length = l := by simp

theorem PC.in {P : Program} {f : FuncId} {fn : Func} {c : Code} {args : List FV} {Φ : FV → Prop} (n : Nat) (hf : P.funcs[f]? = some fn) (hm : P.follows .mixedOrders = true) (hb : fn.body = some c) (hok : okFn fn args.length = true)
    (h : ∀ (Ph : Value → World → Prop) (Ps : Option Code → World → Prop) (E : Ent) (Q : AV → St → Prop), E.n = 0 → (∀ av h n, RF Φ av ⟨[], h, n⟩ → Q av ⟨[], h, n⟩) → AWn ⟨P, f, fn.ntmps, fn.results.toList, E, Q, none, Ph, Ps⟩ n [] [] [.code c] ⟨slots 0 (args.map .f), [], 0⟩) : PC P f args Φ :=
  PC.intro n hf hm hb hok fun E hE Ph Ps => h Ph Ps E (RF Φ) hE fun _ _ _ h => h
theorem GC.in {P : Program} {f : FuncId} {fn : Func} {c : Code} {n0 : Nat} {h0 : Heap} {args : List AV} {R : AV → St → Prop} (n : Nat) (hf : P.funcs[f]? = some fn) (hm : P.follows .mixedOrders = true) (hb : fn.body = some c) (hok : okFn fn args.length = true)
    (h : ∀ (Ph : Value → World → Prop) (Ps : Option Code → World → Prop) (E : Ent) (Q : AV → St → Prop), E.n = n0 → (∀ av h n av1 h1 n1, Imp E ⟨[(0, av)], h, n⟩ ⟨[(0, av1)], h1, n1⟩ → R av1 ⟨[], h1, n1⟩ → Q av ⟨[], h, n⟩) → AWn ⟨P, f, fn.ntmps, fn.results.toList, E, Q, none, Ph, Ps⟩ n [] [] [.code c] ⟨slots 0 args, h0, n0⟩) : GC P f n0 h0 args R :=
  GC.intro n hf hm hb hok fun E hE Ph Ps => h Ph Ps E (RI E R) hE fun _ _ _ _ _ _ hi hr => .to _ _ _ hi hr
theorem GD.in {P : Program} {f : FuncId} {fn : Func} {c : Code} {n0 : Nat} {h0 : Heap} {args : List AV} {av1 : AV} {h1 : Heap} {n1 : Nat} (n : Nat) (hf : P.funcs[f]? = some fn) (hm : P.follows .mixedOrders = true) (hb : fn.body = some c) (hok : okFn fn args.length = true)
    (h : ∀ (Ph : Value → World → Prop) (Ps : Option Code → World → Prop) (E : Ent) (Q : AV → St → Prop), E.n = n0 → (∀ av h n, Imp E ⟨[(0, av)], h, n⟩ ⟨[(0, av1)], h1, n1⟩ → Q av ⟨[], h, n⟩) → AWn ⟨P, f, fn.ntmps, fn.results.toList, E, Q, none, Ph, Ps⟩ n [] [] [.code c] ⟨slots 0 args, h0, n0⟩) : GD P f n0 h0 args av1 h1 n1 :=
  GC.intro n hf hm hb hok fun E hE Ph Ps => h Ph Ps E (RI E _) hE fun _ _ _ hi => .to _ _ _ hi ⟨rfl, rfl⟩

/-- a string's bytes appended -/
theorem strCells_eq (x : List UInt8) : Lib.strCells ⟨⟨x⟩⟩ = x.map vu8 := by simp [Lib.strCells, vu8]
theorem str_app {P : Program} {w : World} {T U V e : TypeId} (hu : P.underlying T = some (.slice e)) (hU : P.underlying U = some .string) {kk : TK} (hkk : tk P e = some kk) (h1 : kk.sz = 1) (x : List UInt8) :
    AppSrc P w T U V e (.string ⟨⟨x⟩⟩) x.length (x.map vu8) := by
  obtain ⟨i0, d0, z0, hi0, _, hz0, hsz0, _⟩ := tk_spec hkk
  have hsize : (⟨⟨x⟩⟩ : ByteArray).size = x.length := rfl
  have one : ∀ i, P.info? e = some i → i.size = 1 := fun i hi => by
    rw [hi0] at hi; simp only [Option.some.injEq] at hi; subst hi; omega
  refine ⟨?_, ?_, ?_, ?_⟩
  · intro h0 base len cap hle
    have hx : x = [] := List.length_eq_zero_iff.1 h0
    subst hx
    have hfc : (Builtin.firstCells i0.size 0 (.string ⟨⟨[]⟩⟩)).run P w = .ok #[] w := by simp [Builtin.firstCells]
    have h00 : (⟨⟨[]⟩⟩ : ByteArray).size = 0 := rfl
    cases base with
    | none => simp [h00, Builtin.append_, run_underlying hu, run_underlying hU, sizeOf, typeInfo, hi0, Builtin.lenOf, hle, hfc]
    | some b => simp [h00, Builtin.append_, run_underlying hu, run_underlying hU, sizeOf, typeInfo, hi0, Builtin.lenOf, hle, hfc, storeCells]
  · intro h0 i z hu' hi hz hn h63 h48
    have := run_append_nil_string (P := P) w T U V e i z hu hU hi hz ⟨⟨x⟩⟩ h0 (by rw [hsize]; omega) (by rw [hsize]; exact h48)
    rw [hsize] at this
    rw [this]
    simp
    rfl
  · intro h0 i hu' hi g len cap cur hg hn hone hroom hfit
    have h1i := one i hi
    rw [h1i, Nat.mul_one] at hfit ⊢
    have := Lib.run_append_room_string (P := P) w T U V e i hu hU hi h1i g len cap cur hg ⟨⟨x⟩⟩ (by rw [hsize]; exact hroom) (by rw [hsize]; simpa using hfit)
    rw [hsize, strCells_eq] at this
    rw [this]
    simp
  · intro h0 i z hu' hi hz b len cap olds hlo holds hn hlt h63 hfit
    have := Lib.run_append_grow_string (P := P) w T U V e i z hu hU hi hz b len cap olds hlo holds ⟨⟨x⟩⟩ (by rw [hsize]; exact hlt) (by rw [hsize]; omega) (by rw [hsize]; exact hfit)
    rw [hsize, strCells_eq] at this
    exact this

theorem AW.apStr {T U e : TypeId} {s x : Operand} {id len : Nat} {xs : List FV} {l : List UInt8} {kk : TK} (hgd : o.guard = none) (ho : o.op = .call { callee := .builtin .append, args := #[s, x], argTypes := #[T, U] }) (hs0 : ev σ s = some (true, .sl id 1 0 len)) (hx : ev σ x = some (true, .s (str l)))
    (hl : lk id σ.h = some (.row e 1 xs)) (hlen : xs.length = len) (hu : C.P.underlying T = some (.slice e)) (hU : C.P.underlying U = some .string) (hkk : tk C.P e = some kk) (h1 : kk.sz = 1) (hb1 : kk.bytes = 1) (hln : len + l.length ≤ 140737488355328)
    (hk : AWn C n all os k (St.put ⟨σ.t, (σ.n, .row e 1 (xs ++ l.map u8)) :: hdel id σ.h, σ.n + 1⟩ o.dst (.sl σ.n 1 0 (len + l.length)))) : AW C all (o :: os) k σ := by
  refine AW.op' hgd (fun ι S a w hs => ?_) hk
  have e1 := ev_sound hs hs0 rfl
  have e2 := vr_v (ev_sound hs hx rfl)
  have A := str_app (P := C.P) (w := w) (T := T) (U := U) (V := o.type) hu hU hkk h1 l
  have hr : FRrow S w 1 (l.map u8) (l.map vu8) := by simpa using FRrow_u8 S w l []
  have fin : ∀ r w', (Builtin.append_ #[T, U] o.type #[a.eval s, .string ⟨⟨l⟩⟩]).run C.P w = .ok r w' → (execOp a.eval o).run C.P w = .ok (.value r) w' := by
    intro r w' h
    simp [execOp, ho, resolve, invoke, builtin, e2, str, h]
  rw [← h1] at hl hr
  simp only [VR] at e1
  obtain ⟨hid, ⟨hbn, _, hl0, hcap, e1⟩ | ⟨b, oo, hbn, hcap, _, ho0, e1⟩⟩ := e1
  · have hxs : xs = [] := List.length_eq_zero_iff.1 (by omega)
    subst hxs
    subst hl0
    obtain ⟨r, w', ι', hrun, hs', hv⟩ := append_nil (V := o.type) hu hkk (by omega) (hs.del id) (ys := l.map u8) (by simp) A (by simp [h1]) hr (by rw [hb1]; simp; omega) (by simp; omega)
    rw [h1] at hs' hv
    refine ⟨r, w', ι', S, .inl (fin r w' (by rw [e1]; exact hrun)), by simpa using hs', by simpa using hv⟩
  · have := ho0 trivial; subst this
    obtain ⟨r, w', ι', hrun, hs', hv⟩ := append_own (V := o.type) hu hkk (by omega) hs (ys := l.map u8) (by simp) A (by simp [h1]) hr hl hbn (len := len) (by omega) (by rw [hb1]; simp; omega) (by simp; omega)
    rw [h1] at hs' hv
    refine ⟨r, w', ι', S, .inl (fin r w' (by rw [e1]; simpa using hrun)), ?_, by simpa using hv⟩
    rw [List.take_of_length_le (by omega)] at hs'
    exact hs'
theorem AW.apStrNil {T U e : TypeId} {s x : Operand} {l : List UInt8} {kk : TK} (hgd : o.guard = none) (ho : o.op = .call { callee := .builtin .append, args := #[s, x], argTypes := #[T, U] }) (hs0 : ev σ s = some (true, .s (.slice none 0 0))) (hx : ev σ x = some (true, .s (str l)))
    (hu : C.P.underlying T = some (.slice e)) (hU : C.P.underlying U = some .string) (hkk : tk C.P e = some kk) (h1 : kk.sz = 1) (hb1 : kk.bytes = 1) (hln : l.length ≤ 140737488355328)
    (hk : AWn C n all os k (St.put ⟨σ.t, (σ.n, .row e 1 (l.map u8)) :: σ.h, σ.n + 1⟩ o.dst (.sl σ.n 1 0 l.length))) : AW C all (o :: os) k σ := by
  refine AW.op' hgd (fun ι S a w hs => ?_) hk
  have e1 := vr_v (ev_sound hs hs0 rfl)
  have e2 := vr_v (ev_sound hs hx rfl)
  have A := str_app (P := C.P) (w := w) (T := T) (U := U) (V := o.type) hu hU hkk h1 l
  have hr : FRrow S w 1 (l.map u8) (l.map vu8) := by simpa using FRrow_u8 S w l []
  rw [← h1] at hr
  obtain ⟨r, w', ι', hrun, hs', hv⟩ := append_nil (V := o.type) hu hkk (by omega) hs (ys := l.map u8) (by simp) A (by simp [h1]) hr (by rw [hb1]; simp; omega) (by simp; omega)
  rw [h1] at hs' hv
  refine ⟨r, w', ι', S, .inl ?_, hs', by simpa using hv⟩
  simp [execOp, ho, resolve, invoke, builtin, e1, e2, str, hrun]

theorem VQs.mk {L : List Oper} {fuel : Nat} {tail : List Oper} {h : Heap} {m : Nat} {t : List (Nat × AV)} {c : Bool} (v : AV) (h1 : StepOK C L k h m o t (mkg c v)) (h2 : VQ C L fuel tail k h m n os (putT t o.dst (mkg c v))) : VQs C L fuel tail k h m n os o t c := by
  simp only [VQs]
  exact ⟨v, h1, h2⟩
/-- an operation of a region, shown by hand, that leaves the world as it is -/
theorem step_hand {L : List Oper} {h : Heap} {m : Nat} {t : List (Nat × AV)} {v : AV} (hgd : o.guard = none)
    (hr : ∀ ι S a w, Sim C.E C.N ⟨pickT t (o.looksAt L.toArray), h, m⟩ ι S a w → ∃ y, (execOp a.eval o).run C.P w = .ok (.value y) w ∧ VR S ι m w v y) : StepOK C L k h m o t (mkg true v) := by
  intro u ι S a w hs hl hd next hnext
  have hp := sim_pick hs hl
  have hw : Region.wanted o (yielded L.toArray a.tmps) = true := by simp [Region.wanted, hgd]
  rw [hw]
  refine ⟨fun _ => ?_, fun h => by cases h⟩
  obtain ⟨y, hrun, hv⟩ := hr ι S a w hp
  unfold Oper.wp
  rw [hrun, Oper.upon_value]
  refine hnext ι S _ w ?_
  rw [← put_putT]
  exact hs.put hd hv

/-- a block turns that no one leads to any more -/
theorem Mem.touch {E : Ent} {h : Heap} {n : Nat} {ι : Nat → Loc} {S : Nat → Prop} {w w' : World} {b : Nat} (hm : Mem E h n ι S w) (hq : Only w w' b) (hS : ¬ S b) (ho : ∀ id o, lk id h = some o → (ι id).b ≠ some b) (hE : E.own b ∨ E.w.heap.size ≤ b) : Mem E h n ι S w' where
  obj i oi hi := ⟨(hm.obj i oi hi).1, (hm.obj i oi hi).2.mono (fun _ h => h) (fun b' hb' => hq.heap b' fun e => by subst e; exact hS hb') (Nat.le_refl _) (fun _ _ => rfl) (fun b' hb' => hq.heap b' fun e => by subst e; exact ho i oi hi hb')⟩
  own i oi b' hi hb' := by rw [hq.size]; exact hm.own i oi b' hi hb'
  inj := hm.inj
  slt b' hb' := by rw [hq.size]; exact hm.slt b' hb'
  ssub := hm.ssub
  ssup := hm.ssup
  keep b' hb' hno := by
    rw [hq.heap b']
    · exact hm.keep b' hb' hno
    · intro e; subst e
      rcases hE with h' | h'
      · exact hno h'
      · omega
  size := by rw [hq.size]; exact hm.size
  os := hq.os.trans hm.os
  tape := hq.tape.trans hm.tape
  output := hq.output.trans hm.output
  names := hm.names
  same := hm.same

/-- unsafe.SliceData of an owned row that is not empty -/
theorem step_sliceData {L : List Oper} {h : Heap} {m : Nat} {t : List (Nat × AV)} {x : Operand} {T T' : TypeId} {id len : Nat} {xs : List FV} (hgd : o.guard = none) (ho : o.op = .call { callee := .builtin .unsafeSliceData, args := #[x], argTypes := #[T] })
    (hx : ev ⟨pickT t (o.looksAt L.toArray), h, m⟩ x = some (true, .sl id 1 0 len)) (hl : lk id h = some (.row T' 1 xs)) (h0 : xs ≠ []) : StepOK C L k h m o t (mkg true (.rp id 1 0 0)) := by
  refine step_hand hgd fun ι S a w hs => ?_
  have e1 := ev_sound hs hx rfl
  simp only [VR] at e1
  obtain ⟨hid, ho'⟩ := hs.mem.obj id _ hl
  rcases ho' with ⟨hb, _, hxs⟩ | ⟨b, vs, hb, hh, hlc, hcm, hvs, hr⟩
  · exact absurd hxs h0
  · obtain ⟨_, ⟨hbn, _⟩ | ⟨b', oo, hbn, hcap, _, ho0, e1⟩⟩ := e1
    · rw [hb] at hbn; cases hbn
    · rw [hb] at hbn; simp only [Option.some.injEq] at hbn; subst hbn
      have := ho0 trivial; subst this
      have hpos : 0 < xs.length := List.length_pos_iff.2 h0
      have := Lib.run_unsafeSliceData_row (P := C.P) (w := w) #[T] o.type ⟨b, 0, none⟩ len ((ι id).cap - 0) (by omega)
      refine ⟨.pointer (some ⟨b, 0, none⟩), by simp only [Nat.sub_zero] at this e1; simp [execOp, ho, resolve, invoke, builtin, e1, this], ?_⟩
      simp only [VR]
      exact ⟨hid, b, hb, by simp⟩

/-- unsafe.String over an owned row: the row is told no more -/
theorem AW.unsafeString {x y : Operand} {pt it e : TypeId} {id : Nat} {l : List UInt8} (hgd : o.guard = none) (ho : o.op = .call { callee := .builtin .unsafeString, args := #[x, y], argTypes := #[pt, it] })
    (hx : ev σ x = some (true, .rp id 1 0 0)) (hy : ev σ y = some (true, .s (.int .i64 l.length))) (hl : lk id σ.h = some (.row e 1 (l.map u8))) (h0 : l ≠ []) (hp : C.P.underlying pt = some (.pointer e)) (hc : C.P.cellsOf e = 1) (hlen : l.length ≤ 9223372036854775807)
    (hk : AWn C n all os k (St.put ⟨σ.t, hdel id σ.h, σ.n⟩ o.dst (.s (str l)))) : AW C all (o :: os) k σ := by
  refine AW.op' hgd (fun ι S a w hs => ?_) hk
  have e1 := ev_sound hs hx rfl
  have e2 := vr_v (ev_sound hs hy rfl)
  simp only [VR] at e1
  obtain ⟨_, b', hb', e1⟩ := e1
  obtain ⟨hid, ⟨hb, _, hxs⟩ | ⟨b, vs, hb, hh, hlc, hcm, hvs, hr⟩⟩ := hs.mem.obj id _ hl
  · exact absurd (by simpa using hxs) h0
  · rw [hb] at hb'; simp only [Option.some.injEq] at hb'; subst hb'
    have hown := hs.mem.own id _ b hl hb
    have hll : l.length ≤ vs.size := by simp only [List.length_map] at hlc; omega
    have hcell : ∀ j x, l[j]? = some x → w.cell? ((⟨b, 0, none⟩ : Addr).add j) = some (.int .u8 x.toNat) := by
      intro j x hj
      rw [add_off]
      refine cell_of hh ?_
      obtain ⟨z, hz, hz2, hz3, _⟩ := hr.get (i := j) (x := u8 x) (by simp [hj])
      simp only [u8, FR] at hz
      obtain ⟨rfl, _⟩ := hz
      simp only [Value.cells, Nat.mul_one] at hz2
      have : (vs.toList.drop j).take 1 = [.int .u8 x.toNat] := hz2.symm
      have h5 : ((vs.toList.drop j).take 1)[0]? = some (.int .u8 x.toNat) := by rw [this]; rfl
      rw [List.getElem?_take, List.getElem?_drop] at h5
      simpa using h5
    have hrun := Lib.run_unsafeString_row (P := C.P) w pt it o.type e hp hc b vs.size (shape_of hh) l h0 hll hlen hcell
    have honly : Only w (w.freeze ⟨b, 0, none⟩ l.length) b := by
      have hn : l.length ≠ 0 := fun e => h0 (List.length_eq_zero_iff.1 e)
      unfold World.freeze
      rw [if_neg hn]
      refine ⟨fun b' hb' => ?_, by simp, rfl, rfl, rfl⟩
      simp only [Array.getElem?_modify]
      rw [if_neg (fun e => hb' e.symm)]
    have hs' : Sim C.E C.N ⟨σ.t, hdel id σ.h, σ.n⟩ ι S a (w.freeze ⟨b, 0, none⟩ l.length) := by
      refine ⟨(hs.mem.del id).touch honly hown.2.1 ?_ hown.2.2, hs.tsz, fun t v h => (hs.tm t v h).mono (fun _ h => h) (fun b' hb' => honly.heap b' fun e => by subst e; exact hown.2.1 hb') (Nat.le_refl _) (fun _ _ => rfl), hs.def0⟩
      intro i oi hi hbi
      rw [lk_hdel] at hi
      split at hi
      · cases hi
      · rename_i hne; exact hne (hs.mem.inj i id oi _ b hi hl hbi hb)
    refine ⟨.string ⟨l.toArray⟩, _, ι, S, .inl ?_, hs', mk_v rfl⟩
    have e1' : a.eval x = .pointer (some ⟨b, 0, none⟩) := by simpa using e1
    simp [execOp, ho, resolve, invoke, builtin, e1', e2, hrun]
end
end Go.Fw
