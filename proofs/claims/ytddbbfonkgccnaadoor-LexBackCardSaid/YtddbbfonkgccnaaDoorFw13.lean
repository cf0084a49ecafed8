/-
  Fw13: what a function promises to those who call it, when it works on frozen values alone; calls met by such promises.
-/
import Derived.Test.YtddbbfonkgccnaaDoorFw12
set_option linter.unusedVariables false
namespace Go.Fw
open Go

theorem calls_of_goes {C : Cx} {fn : Func} {c : Code} (hro : C.ro = none) (hf : C.P.funcs[C.f]? = some fn) (hb : fn.body = some c) {args : Array Value} {w : World}
    (h : Goes C [.code c] ⟨args ++ Array.replicate (fn.ntmps - args.size) undef, []⟩ w) : Calls C.P C.f args w fun e w' => ∃ v, e = .returned v ∧ C.Φ v w' := by
  intro cs
  have henter : Frame.enter C.P C.f args .normal = ({ (default : Frame) with fn := C.f, kind := .normal, roundOf := none } : Frame).atR ⟨args ++ Array.replicate (fn.ntmps - args.size) undef, []⟩ [.code c] := by
    simp [Frame.enter, Frame.atR, hf, hb]
  have hd := h { (default : Frame) with fn := C.f, kind := .normal, roundOf := none } cs rfl rfl hro.symm
  unfold Done at hd
  rw [hro] at hd
  obtain ⟨v, w', fr, hF, hs, hfn, hl⟩ := hd
  exact ⟨.returned v, w', fr, ⟨v, rfl, hF⟩, by rw [henter]; exact hs, hfn, hl⟩

/-- a function's context without marks -/
theorem Cx.Ok.plain {C : Cx} {fn : Func} (hf : C.P.funcs[C.f]? = some fn) (hr : fn.results.toList = C.res) (hm : C.P.follows .mixedOrders = true) (hro : C.ro = none) (hd : C.E.defs = []) (hΦ : ∀ v w', Fin C v w' → C.Φ v w') : C.Ok where
  fn := ⟨fn, hf, hr⟩
  mixed := hm
  fin := by
    intro _ σ ι S a w hs hret b cs todo h1 h2 h3
    obtain ⟨v, hF, hl⟩ := aRet_sound (C := C) (fr := { b.atR a todo with mode := .returning }) ⟨fn, hf, hr⟩ hs hret rfl (by show a.defers = []; rw [hs.def0, hd]) (by simpa [Frame.atR] using h2) (by simpa [Frame.atR] using h1) rfl
    exact ⟨v, w, _, hΦ v w hF, Steps.refl _ _, by simpa [Frame.atR] using h1, hl⟩
  finR := fun h => absurd hro h

def slots (i : Nat) : List AV → List (Nat × AV)
  | [] => []
  | x :: xs => (i, x) :: slots (i + 1) xs
theorem lk_slots : ∀ (xs : List AV) (i t : Nat) {v : AV}, lk t (slots i xs) = some v → ∃ j, t = i + j ∧ xs[j]? = some v
  | [], i, t, v, h => by simp [slots, lk] at h
  | x :: xs, i, t, v, h => by
    simp only [slots, lk_cons] at h
    split at h
    · rename_i e
      simp only [Option.some.injEq] at h
      exact ⟨0, by simp [e], by simp [h]⟩
    · obtain ⟨j, e, hj⟩ := lk_slots xs (i + 1) t h
      exact ⟨j + 1, by omega, by simpa using hj⟩

theorem sim_entry {E : Ent} {N : Nat} {args : List AV} {h : Heap} {n : Nat} {ι : Nat → Loc} {S : Nat → Prop} {w : World} {vals : Array Value} (hm : Mem E h n ι S w) (hv : VRs S ι n w args vals.toList) (hN : args.length ≤ N) (hd : E.defs = []) :
    Sim E N ⟨slots 0 args, h, n⟩ ι S ⟨vals ++ Array.replicate (N - vals.size) undef, []⟩ w where
  mem := hm
  tsz := by
    have := hv.length
    simp at this
    simp; omega
  tm t v hl := by
    obtain ⟨j, e, hj⟩ := lk_slots _ _ _ hl
    simp only [Nat.zero_add] at e; subst e
    obtain ⟨y, hy, hvy⟩ := hv.get hj
    have hlt : t < vals.size := by
      have := (List.getElem?_eq_some_iff.1 hy).1
      simpa using this
    have : (vals ++ Array.replicate (N - vals.size) undef).getD t undef = y := by
      simp only [Array.getD_eq_getD_getElem?, Array.getElem?_append_left hlt]
      simp only [Array.getElem?_toList] at hy
      rw [hy]; rfl
    simpa [this] using hvy
  def0 := hd.symm

/-- a promise on frozen values: nothing that was there turns; the result is such a one -/
def PC (P : Program) (f : FuncId) (args : List FV) (Φ : FV → Prop) : Prop :=
  ∀ (S : Nat → Prop) (w : World) (vals : Array Value), (∀ b, S b → b < w.heap.size) → FRs S w args vals.toList →
    Calls P f vals w fun e w' => ∃ v r S', e = .returned v ∧ Φ r ∧ (∀ b, S b → S' b) ∧ (∀ b, S' b → S b ∨ (w.heap.size ≤ b ∧ b < w'.heap.size)) ∧ Quiet w w' ∧ FR S' w' r v

theorem PC.mono {P : Program} {f : FuncId} {args : List FV} {Φ Ψ : FV → Prop} (h : PC P f args Φ) (hi : ∀ r, Φ r → Ψ r) : PC P f args Ψ := by
  intro S w vals hS hv
  refine (h S w vals hS hv).mono ?_
  rintro e w' ⟨v, r, S', h1, h2, h3⟩
  exact ⟨v, r, S', h1, hi r h2, h3⟩

def RFo (Φ : FV → Prop) : Option (Prop × FV × St) → Prop
  | some (c, y, _) => c ∧ Φ y
  | none => False
def RF (Φ : FV → Prop) (av : AV) (σ : St) : Prop := RFo Φ (release σ av)

theorem fin_RF {C : Cx} {Φ : FV → Prop} (hR : C.R = RF Φ) (hown : ∀ b, ¬ C.E.own b) {v : Value} {w' : World} (h : Fin C v w') :
    ∃ r S', Φ r ∧ (∀ b, C.E.S b → S' b) ∧ (∀ b, S' b → C.E.S b ∨ (C.E.w.heap.size ≤ b ∧ b < w'.heap.size)) ∧ Quiet C.E.w w' ∧ FR S' w' r v := by
  obtain ⟨av, h, n, ι, S, hr, hm, hv⟩ := h
  rw [hR] at hr
  unfold RF RFo at hr
  split at hr
  · rename_i c y σ' hrel
    have hs : Sim C.E 0 ⟨[], h, n⟩ ι S ⟨#[], C.E.defs⟩ w' := ⟨hm, rfl, fun t v h => by simp [lk] at h, rfl⟩
    obtain ⟨S', hS, hs', hf, _, _⟩ := release_sound av hs hrel hr.1 hv
    refine ⟨y, S', hr.2, fun b hb => hS b (hm.ssup b hb), fun b hb => ?_, ⟨fun b hb => ?_, hm.size, hm.os, hm.tape, hm.output⟩, hf⟩
    · rcases hs'.mem.ssub b hb with h | h | h
      · exact .inl h
      · exact absurd h (hown b)
      · exact .inr ⟨h, hs'.mem.slt b hb⟩
    · exact hm.keep b hb (hown b)
  · exact hr.elim

def okFn (fn : Func) (n : Nat) : Bool := match fn.body with
  | some c => okCode fn.ntmps c && decide (n ≤ fn.ntmps)
  | none => false

theorem PC.intro {P : Program} {f : FuncId} {fn : Func} {c : Code} {args : List FV} {Φ : FV → Prop} (n : Nat) (hf : P.funcs[f]? = some fn) (hm : P.follows .mixedOrders = true) (hb : fn.body = some c) (hok : okFn fn args.length = true)
    (h : ∀ E : Ent, E.n = 0 → ∀ Ph Ps, AWn ⟨P, f, fn.ntmps, fn.results.toList, E, RF Φ, none, Ph, Ps⟩ n [] [] [.code c] ⟨slots 0 (args.map .f), [], 0⟩) : PC P f args Φ := by
  intro S w vals hS hv
  let E : Ent := ⟨w, fun _ => ⟨none, 0⟩, 0, fun _ => False, S, []⟩
  let C : Cx := ⟨P, f, fn.ntmps, fn.results.toList, E, RF Φ, none, fun v w' => ∃ r S', Φ r ∧ (∀ b, S b → S' b) ∧ (∀ b, S' b → S b ∨ (w.heap.size ≤ b ∧ b < w'.heap.size)) ∧ Quiet w w' ∧ FR S' w' r v, fun _ _ => False⟩
  simp only [okFn, hb, Bool.and_eq_true, decide_eq_true_eq] at hok
  have hmem : Mem E [] 0 E.ι S w :=
    { obj := fun id o h => by simp [lk] at h
      own := fun id o b h => by simp [lk] at h
      inj := fun id id' o o' b h => by simp [lk] at h
      slt := hS
      ssub := fun b h => .inl h
      ssup := fun b h => h
      keep := fun b hb _ => rfl
      size := Nat.le_refl _
      os := rfl
      tape := rfl
      output := rfl
      names := Nat.le_refl _
      same := fun _ h => rfl }
  have hs : Sim E fn.ntmps ⟨slots 0 (args.map .f), [], 0⟩ E.ι S ⟨vals ++ Array.replicate (fn.ntmps - vals.size) undef, []⟩ w :=
    sim_entry hmem (VRs_map_f.2 hv) (by simpa using hok.2) rfl
  have ok : C.Ok := Cx.Ok.plain (C := C) hf rfl hm rfl rfl fun v w' hF => fin_RF (C := C) rfl (fun _ h => h) hF
  have hg : Goes C [.code c] ⟨vals ++ Array.replicate (fn.ntmps - vals.size) undef, []⟩ w :=
    at_nil.1 (AWn_sound n [] [] _ _ (h E rfl _ _) ok (List.suffix_refl _) rfl (by simp [okItems, okItem, hok.1]) _ _ _ _ hs)
  refine (calls_of_goes (C := C) rfl hf hb hg).mono ?_
  rintro e w' ⟨v, rfl, r, S', h1, h2, h3, h4, h5⟩
  exact ⟨v, r, S', rfl, h1, h2, h3, h4, h5⟩

/-- a call that works on frozen values alone -/
theorem wp_pure {C : Cx} {o : Oper} {a : Act} {w w0 : World} {f : FuncId} {vals : Array Value} {args : List FV} {Φ : FV → Prop} {next : Act → World → Prop} {k : List Item} (hrun : (execOp a.eval o).run C.P w = .ok (.enter f vals) w)
    (hpc : PC C.P f args Φ) {σ : St} {ι : Nat → Loc} {S : Nat → Prop} (hs : Sim C.E C.N σ ι S a w) (hv : FRs S w args vals.toList) (hd : ∀ d, o.dst = some d → d < C.N)
    (h : ∀ r S' a' w', Φ r → Sim C.E C.N (σ.put o.dst (.f r)) ι S' a' w' → next a' w') : o.wp C.P a w next (QN C k) := by
  unfold Oper.wp
  rw [hrun, Oper.upon_enter]
  refine (hpc S w vals hs.mem.slt hv).mono ?_
  rintro e w' ⟨v, r, S', rfl, hΦ, h1, h2, hq, hr⟩
  have hs' : Sim C.E C.N σ ι S' a w' := (hs.quiet hq).more h1 (fun b hb => (h2 b hb).imp id fun ⟨h3, h4⟩ =>
    ⟨h4, .inr (Nat.le_trans hs.mem.size h3), fun id o hl hb' => absurd (hs.mem.own id o b hl hb').1 (by omega)⟩)
  exact h r S' _ w' hΦ (hs'.put hd (by simpa only [VR] using hr))

mutual
/-- a value that is frozen as it stands -/
def AV.fz : AV → Option FV
  | .f x => some x
  | .agg xs => match AV.fzs xs with | some ys => some (.agg ys) | none => none
  | .tup xs => match AV.fzs xs with | some ys => some (.tup ys) | none => none
  | .clo q a b => match AV.fzs a, AV.fzs b with | some x, some y => some (.clo q x y) | _, _ => none
  | _ => none
def AV.fzs : List AV → Option (List FV)
  | [] => some []
  | x :: xs => match AV.fz x, AV.fzs xs with | some y, some ys => some (y :: ys) | _, _ => none
end
mutual
theorem fz_sound {S : Nat → Prop} {ι : Nat → Loc} {n : Nat} {w : World} : ∀ (x : AV) {y : FV} {v : Value}, x.fz = some y → VR S ι n w x v → FR S w y v
  | .f x, y, v, h, hv => by simp only [AV.fz, Option.some.injEq] at h; subst h; simpa only [VR] using hv
  | .agg xs, y, v, h, hv => by
    simp only [AV.fz] at h
    split at h
    · rename_i ys h1
      simp only [Option.some.injEq] at h; subst h
      simp only [VR] at hv; obtain ⟨zs, e, h2, h3⟩ := hv
      simp only [FR]; exact ⟨zs, e, fzs_sound xs h1 h2, h3⟩
    · cases h
  | .tup xs, y, v, h, hv => by
    simp only [AV.fz] at h
    split at h
    · rename_i ys h1
      simp only [Option.some.injEq] at h; subst h
      simp only [VR] at hv; obtain ⟨zs, e, h2⟩ := hv
      simp only [FR]; exact ⟨zs, e, fzs_sound xs h1 h2⟩
    · cases h
  | .clo f a b, y, v, h, hv => by
    simp only [AV.fz] at h
    split at h
    · rename_i p q h1 h2
      simp only [Option.some.injEq] at h; subst h
      simp only [VR] at hv; obtain ⟨fs, cs, e, h3, h4⟩ := hv
      simp only [FR]; exact ⟨fs, cs, e, fzs_sound a h1 h3, fzs_sound b h2 h4⟩
    · cases h
  | .ptr _ _, _, _, h, _ => by simp [AV.fz] at h
  | .rp _ _ _ _, _, _, h, _ => by simp [AV.fz] at h
  | .sl _ _ _ _, _, _, h, _ => by simp [AV.fz] at h
  | .mp _, _, _, h, _ => by simp [AV.fz] at h
  | .it _, _, _, h, _ => by simp [AV.fz] at h
  | .g _, _, _, h, _ => by simp [AV.fz] at h
theorem fzs_sound {S : Nat → Prop} {ι : Nat → Loc} {n : Nat} {w : World} : ∀ (xs : List AV) {ys : List FV} {vs : List Value}, AV.fzs xs = some ys → VRs S ι n w xs vs → FRs S w ys vs
  | [], ys, vs, h, hv => by simp only [AV.fzs, Option.some.injEq] at h; subst h; simpa only [VRs, FRs] using hv
  | x :: xs, ys, vs, h, hv => by
    simp only [AV.fzs] at h
    split at h
    · rename_i y ys' h1 h2
      simp only [Option.some.injEq] at h; subst h
      simp only [VRs] at hv; obtain ⟨z, zs, e, h3, h4⟩ := hv
      simp only [FRs]; exact ⟨z, zs, e, fz_sound x h1 h3, fzs_sound xs h2 h4⟩
    · cases h
end

section
variable {C : Cx} {n : Nat} {all os : List Oper} {o : Oper} {k : List Item} {σ : St} {c : Bool} {need : Prop} {f : FuncId} {args : List AV}

theorem call_val {op : Op} {need : Prop} {f : FuncId} {args : List AV} (h : aop (tk C.P) σ op = .call need f args) : ∃ c x, op = .call c ∧ c.callee = .value x ∧ aCallV (ev σ x) (evl σ c.args.toList) = .call need f args := by
  cases op <;> simp only [aop, reduceCtorEq] at h
  case call cl =>
    split at h
    · exfalso; revert h; split <;> simp only [aLen, reduceCtorEq, false_imp_iff] <;> (repeat' split) <;> simp
    · exfalso; revert h; split <;> simp only [aAppend, apT, apE, apRow, reduceCtorEq, false_imp_iff] <;> (repeat' split) <;> simp
    · rename_i x hc; exact ⟨cl, x, rfl, hc, h⟩
    · cases h
  case unOp op T x => exfalso; revert h; cases op <;> simp only [aNot, aNeg, aXor, reduceCtorEq, false_imp_iff] <;> (repeat' split) <;> simp
  case slice T x lo hi mx => exfalso; revert h; cases mx <;> simp only [aSlice, slStr, slF, slO, reduceCtorEq, false_imp_iff] <;> (repeat' split) <;> simp
  case next => exfalso; revert h; simp only [aNext]; (repeat' split) <;> first | (simp; done) | (rename_i s pos _; cases hp : decide (pos < s.length) <;> simp [nextS])
  all_goals
    exfalso; revert h
    simp only [aMove, aPick, aBin, resV, aConv, aNil, aAlloc, newCells, aBox, aLoad, ldAgg, aStore, aStoreRow, aFieldAddr, aField, partOf, aIndexAddr, idxAddrE, arrAddrE, aIndex, arrIdx, aExtract, aBuild, aggRes, aBuildSlice, bslE, bslRes, aMakeSlice, mkSl, aRange, aMkFunc]
    (repeat' split) <;> simp

/-- a call under no guard, or under one that holds -/
theorem ACall.pure (as : List FV) (Φ : FV → Prop) (hf : enters C.P f = true) (hpc : PC C.P f as Φ) (ha : AV.fzs args = some as) (hn : need) (hk : ∀ r, Φ r → AWn C n all os k (σ.put o.dst (.f r))) :
    ACall C n all o os k σ true need f args := by
  intro hg hop ok hsuf hok hki ι S a w hs
  obtain ⟨cl, x, ho, hcal, hcall⟩ := call_val hop
  have hd := okOps_mem hok (hsuf.subset (List.mem_cons_self ..))
  have hsuf' : os <:+ all := (List.suffix_cons o os).trans hsuf
  refine at_step (σ := σ) ?_ ?_ hs hg hsuf hok
  · intro c' hc' _
    obtain ⟨vals, hrun, hv⟩ := s_call hs ho hcal hcall hn hf
    refine wp_pure (w0 := w) hrun hpc hs (fzs_sound _ ha hv) hd ?_
    intro r S' a' w' hΦ hs'
    exact AWn_sound _ _ _ _ _ (hk r hΦ) ok hsuf' hok hki ι S' a' w' hs'
  · intro c' hc' hct
    rw [hg] at hc'; simp only [Option.some.injEq] at hc'
    rw [← hc'] at hct; cases hct

/-- a call under a guard -/
theorem ACall.pureG (as : List FV) (r : FV) (hf : c = true → enters C.P f = true) (hpc : c = true → PC C.P f as (· = r)) (ha : c = true → AV.fzs args = some as) (hn : c = true → need) (hk : AWn C n all os k (σ.put o.dst (mkg c (.f r)))) :
    ACall C n all o os k σ c need f args := by
  cases c with
  | true => exact ACall.pure as _ (hf rfl) (hpc rfl) (ha rfl) (hn rfl) (by rintro _ rfl; exact hk)
  | false =>
    intro hg hop ok hsuf hok hki ι S a w hs
    have hd := okOps_mem hok (hsuf.subset (List.mem_cons_self ..))
    have hsuf' : os <:+ all := (List.suffix_cons o os).trans hsuf
    refine at_step (σ := σ) ?_ ?_ hs hg hsuf hok
    · intro c' hc' hct
      rw [hg] at hc'; simp only [Option.some.injEq] at hc'
      rw [← hc'] at hct; cases hct
    · intro c' hc' hct
      exact AWn_sound _ _ _ _ _ hk ok hsuf' hok hki ι S _ w (put_false hs hd _)
end
end Go.Fw
