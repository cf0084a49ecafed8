/-
  Fw11: ranging over a string; functions made and called; all operations at once.
-/
import Derived.Test.YtddbbfonkgccnaaDoorFw10
import Derived.Lib.OthersKept
set_option linter.unusedVariables false
namespace Go.Fw
open Go
section
variable {P : Program} {E : Ent} {N : Nat} {σ σ' : St} {ι : Nat → Loc} {S : Nat → Prop} {a : Act} {w : World} {v : AV} {need : Prop}

theorem s_range (hs : Sim E N σ ι S a w) {o : Oper} {T : TypeId} {x : Operand} (ho : o.op = .range T x) (h : aRange σ (ev σ x) (tk P T) = .val need v σ') (hn : need) : Good P E N a w (execOp a.eval o) v σ' := by
  unfold aRange at h
  split at h
  · rename_i c s _ _ _ _ h1 hk
    obtain ⟨rfl, rfl, rfl⟩ := val_inj h
    obtain ⟨dd, hu, hd⟩ := tk_desc hk
    have hd := tdOf_str hd; subst hd
    have e1 := vr_v (ev_sound hs h1 hn)
    have hs' : Sim E N ⟨σ.t, (σ.n, .siter (bl s) 0) :: σ.h, σ.n + 1⟩ (ext ι σ.n ⟨some w.heap.size, 0⟩) S a (w.iter s 0) :=
      hs.alloc (ob := .stringIter s 0) (cap := 0) (o := .siter (bl s) 0) ⟨_, rfl, by rw [heap_new]; rfl⟩
    exact ⟨.pointer (some ⟨w.heap.size, 0, none⟩), _, _, S, .inl (by simp [execOp, ho, e1, run_range_string w T s hu]), hs', by simp [VR, ext]⟩
  · cases h

theorem setObj_only (w : World) (g : Nat) (o : Obj) : Only w { w with heap := w.heap.setIfInBounds g o } g :=
  ⟨fun b hb => by simp only [Array.getElem?_setIfInBounds]; rw [if_neg (Ne.symm hb)], by simp, rfl, rfl, rfl⟩

theorem s_next (hs : Sim E N σ ι S a w) {o : Oper} {x : Operand} {isS : Bool} (ho : o.op = .next x isS) (h : aNext σ (ev σ x) isS = .val need v σ') (hn : need) : Good P E N a w (execOp a.eval o) v σ' := by
  unfold aNext at h
  split at h
  · rename_i c id h1
    split at h
    · rename_i s pos hl
      obtain ⟨hid, b, hb, hh⟩ := hs.mem.obj id _ hl
      have hlt := (hs.mem.own id _ b hl hb).1
      by_cases hp : pos < s.length
      · rw [decide_eq_true hp] at h
        simp only [nextS] at h
        obtain ⟨rfl, rfl, rfl⟩ := val_inj h
        have e1 := ev_sound hs h1 hn.1
        simp only [VR] at e1
        obtain ⟨_, b', hb', e1⟩ := e1
        rw [hb] at hb'; simp only [Option.some.injEq] at hb'; subst hb'
        have hsz : pos < (⟨⟨s⟩⟩ : ByteArray).size := hp
        have hs' : Sim E N ⟨σ.t, hset id (.siter s (pos + (dec s pos).2)) σ.h, σ.n⟩ ι S a (w.iterAt b ⟨⟨s⟩⟩ (pos + (Utf8.decode ⟨⟨s⟩⟩ pos).2)) :=
          hs.upd hl hb (setObj_only _ _ _) ⟨b, hb, Lib.iterAt_heap _ _ _ _ _ hh⟩
        refine ⟨.tuple #[.bool true, .int .i64 pos, .int .i32 (Utf8.decode ⟨⟨s⟩⟩ pos).1], _, ι, S, .inl ?_, hs', ?_⟩
        · have := Lib.run_next_any_at (P := P) w b ⟨⟨s⟩⟩ pos o.type hh hsz
          simp [execOp, ho, e1, this]
        · simp [VR, VRs, FR, dec, Value.oneCell']
      · rw [decide_eq_false hp] at h
        simp only [nextS] at h
        obtain ⟨rfl, rfl, rfl⟩ := val_inj h
        have e1 := ev_sound hs h1 hn.1
        simp only [VR] at e1
        obtain ⟨_, b', hb', e1⟩ := e1
        rw [hb] at hb'; simp only [Option.some.injEq] at hb'; subst hb'
        have hsz : ¬ pos < (⟨⟨s⟩⟩ : ByteArray).size := hp
        have := Lib.run_next_end_at (P := P) w b ⟨⟨s⟩⟩ pos o.type hh hsz
        exact .same hs (y := .tuple #[.bool false]) (by simp [execOp, ho, e1, this]) (by simp [VR, VRs, FR, Value.oneCell'])
    · cases h
  · cases h

theorem s_mkFunc (hs : Sim E N σ ι S a w) {o : Oper} {fn : Fn} {x y : Array Operand} (ho : o.op = .makeFunc fn x y) (h : aMkFunc σ fn (evl σ x.toList) (evl σ y.toList) = .val need v σ') (hn : need) : GoodS P σ ι S w (execOp a.eval o) v σ' := by
  unfold aMkFunc at h
  split at h
  · rename_i c fs d cs h1 h2
    split at h
    · rename_i f
      obtain ⟨rfl, rfl, rfl⟩ := val_inj h
      refine .same hs (y := .func (.func f) (x.map a.eval) (y.map a.eval)) (by simp [execOp, ho, Instr.makeFunc]) ?_
      simp only [VR]
      exact ⟨_, _, rfl, by simpa using evl_sound hs h1 hn.1, by simpa using evl_sound hs h2 hn.2⟩
    · cases h
  · cases h

/-- a function with code of its own, that a call enters -/
def enters (P : Program) (f : FuncId) : Bool := match P.funcs[f]? with
  | some fn => fn.name != "runtime.NumGoroutine" && fn.body.isSome
  | none => false
theorem run_enters {f : FuncId} (h : enters P f = true) (args : Array Value) : (callFunc f args).run P w = .ok (.enter f args) w := by
  unfold enters at h
  split at h
  · rename_i fn hf
    simp only [bne_iff_ne, Bool.and_eq_true, ne_eq] at h
    cases hb : fn.body with
    | none => rw [hb] at h; simp at h
    | some c => simp [callFunc, hf, h.1, hb]
  · cases h

theorem s_call (hs : Sim E N σ ι S a w) {o : Oper} {c : Call} {x : Operand} (ho : o.op = .call c) (hc : c.callee = .value x) {f : FuncId} {args : List AV} (h : aCallV (ev σ x) (evl σ c.args.toList) = .call need f args) (hn : need) (hf : enters P f = true) :
    ∃ vals : Array Value, (execOp a.eval o).run P w = .ok (.enter f vals) w ∧ VRs S ι σ.n w args vals.toList := by
  unfold aCallV at h
  split at h
  · rename_i c1 f' first cap c2 vs h1 h2
    injection h with e1 e2 e3
    subst e1 e2 e3
    have k1 := ev_sound hs h1 hn.1
    simp only [VR] at k1
    obtain ⟨fs, cs, e, hfs, hcs⟩ := k1
    refine ⟨(fs ++ c.args.map a.eval) ++ cs, ?_, ?_⟩
    · simp [execOp, ho, resolve, hc, Deferred.ofValue, e, invoke, run_enters hf]
    · simp only [Array.toList_append, Array.toList_map, List.append_assoc]
      exact hfs.append ((evl_sound hs h2 hn.2).append hcs)
  · rename_i c1 f' first cap c2 vs h1 h2
    injection h with e1 e2 e3
    subst e1 e2 e3
    have k1 := ev_sound hs h1 hn.1
    simp only [VR, FR] at k1
    obtain ⟨fs, cs, e, hfs, hcs⟩ := k1
    refine ⟨(fs ++ c.args.map a.eval) ++ cs, ?_, ?_⟩
    · simp [execOp, ho, resolve, hc, Deferred.ofValue, e, invoke, run_enters hf]
    · simp only [Array.toList_append, Array.toList_map, List.append_assoc]
      exact (VRs_map_f.2 hfs).append ((evl_sound hs h2 hn.2).append (VRs_map_f.2 hcs))
  · cases h

theorem aop_sound (hs : Sim E N σ ι S a w) {o : Oper} (h : aop (tk P) σ o.op = .val need v σ') (hn : need) : Good P E N a w (execOp a.eval o) v σ' := by
  cases ho : o.op <;> rw [ho] at h <;> simp only [aop, reduceCtorEq] at h
  case move x => obtain ⟨rfl, hv⟩ := s_move hs h hn; exact .same hs (by simp [execOp, ho]) hv
  case assign x => obtain ⟨rfl, hv⟩ := s_move hs h hn; exact .same hs (by simp [execOp, ho]) hv
  case pick => exact (s_pick hs ho h hn).good hs
  case alloc => exact s_alloc hs ho h hn
  case box => exact s_box hs ho h hn
  case build => exact (s_build hs ho h hn).good hs
  case buildSlice => exact s_buildSlice hs ho h hn
  case load => exact (s_load hs ho h hn).good hs
  case store => exact s_store hs ho h hn
  case nilCheck => exact (s_nil hs ho h hn).good hs
  case binOp => exact (s_bin hs ho h hn).good hs
  case unOp op T x =>
    cases op <;> simp only [reduceCtorEq] at h
    all_goals first | exact (s_not hs ho h hn).good hs | exact (s_neg hs ho h hn).good hs | exact (s_xor hs ho h hn).good hs
  case convert => exact s_conv hs ho h hn
  case makeFunc => exact (s_mkFunc hs ho h hn).good hs
  case makeSlice => exact s_makeSlice hs ho h hn
  case slice T x lo hi mx =>
    cases mx <;> simp only [reduceCtorEq] at h
    exact (s_slice hs ho h hn).good hs
  case fieldAddr => exact (s_fieldAddr hs ho h hn).good hs
  case field => exact (s_field hs ho h hn).good hs
  case indexAddr => exact (s_indexAddr hs ho h hn).good hs
  case index => exact (s_index hs ho h hn).good hs
  case range => exact s_range hs ho h hn
  case next => exact s_next hs ho h hn
  case extract => exact (s_extract hs ho h hn).good hs
  case call c =>
    split at h
    · rename_i hc
      split at h
      · rename_i x t hx ht
        have e1 : c.args = #[x] := by rw [← Array.toArray_toList (xs := c.args), hx]
        have e2 : c.argTypes = #[t] := by rw [← Array.toArray_toList (xs := c.argTypes), ht]
        refine (s_len hs (U := o.type) ?_ h hn).good hs
        simp [execOp, ho, resolve, hc, e1, e2, invoke, builtin]
      · cases h
    · rename_i hc
      split at h
      · rename_i x y t u hx ht
        have e1 : c.args = #[x, y] := by rw [← Array.toArray_toList (xs := c.args), hx]
        have e2 : c.argTypes = #[t, u] := by rw [← Array.toArray_toList (xs := c.argTypes), ht]
        refine s_append hs (V := o.type) ?_ h hn
        simp [execOp, ho, resolve, hc, e1, e2, invoke, builtin]
      · cases h
    · unfold aCallV at h
      split at h <;> cases h
    · cases h
end
end Go.Fw
