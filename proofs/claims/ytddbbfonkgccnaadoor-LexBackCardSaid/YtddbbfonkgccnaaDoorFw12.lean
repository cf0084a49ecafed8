/-
  Fw12: the executor: code walked in the abstract machine, and what a walk says of the model's run.
-/
import Derived.Test.YtddbbfonkgccnaaDoorFw11
import Derived.OrdersIn
import Derived.RangeFuncCalls
set_option linter.unusedVariables false
namespace Go.Fw
open Go

structure Cx where
  P : Program
  f : FuncId
  N : Nat
  res : List ResultVar
  E : Ent
  R : AV → St → Prop
  /-- none: a function's frame; some l: a round of the loop l -/
  ro : Option Nat
  /-- what a function's end is to give -/
  Φ : Value → World → Prop
  /-- what a round's end is to give -/
  Ψ : Option Code → World → Prop

def retAV (tk : TypeId → Option TK) (σ : St) : List ResultVar → Option (Prop × List AV)
  | [] => some (True, [])
  | .tmp t :: rs => match ev σ (.tmp t), retAV tk σ rs with
    | some (c, v), some (n, vs) => some (c = true ∧ n, v :: vs)
    | _, _ => none
  | .cell x t :: rs => match aLoad σ (ev σ (.tmp x)) (tk t), retAV tk σ rs with
    | .val c v _, some (n, vs) => some (c ∧ n, v :: vs)
    | _, _ => none
def tupOf : List AV → AV
  | [v] => v
  | vs => .tup vs
def aRet (C : Cx) (σ : St) : Option (Prop × List AV) → Prop
  | some (n, vs) => n ∧ C.R (tupOf vs) ⟨[], σ.h, σ.n⟩
  | none => False
/-- how a round is left, as a value -/
def jAV : Option Code → AV
  | none => .s (.bool true)
  | some .ret => .tup []
  | some (.exit id) => .it id
  | _ => .mp 0
def jOK : Option Code → Bool
  | none => true
  | some .ret => true
  | some (.exit _) => true
  | _ => false

/-- what the run comes to -/
def Fin (C : Cx) (v : Value) (w' : World) : Prop := ∃ av h n ι S, C.R av ⟨[], h, n⟩ ∧ Mem C.E h n ι S w' ∧ VR S ι n w' av v
structure Cx.Ok (C : Cx) : Prop where
  fn : ∃ fn, C.P.funcs[C.f]? = some fn ∧ fn.results.toList = C.res
  mixed : C.P.follows .mixedOrders = true
  fin : C.ro = none → ∀ (σ : St) ι S a w, Sim C.E C.N σ ι S a w → aRet C σ (retAV (tk C.P) σ C.res) → ∀ (b : Frame) (cs : List Frame) (todo : List Item), b.fn = C.f → b.kind = .normal → b.roundOf = none →
    ∃ v w' fr, C.Φ v w' ∧ Steps C.P (lone { b.atR a todo with mode := .returning } cs w) (lone fr cs w') ∧ fr.fn = C.f ∧ fr.leaving C.P w' (.returned v)
  finR : C.ro ≠ none → ∀ (j : Option Code) (σ : St) ι S a w, jOK j = true → Sim C.E C.N σ ι S a w → C.R (jAV j) ⟨[], σ.h, σ.n⟩ → C.Ψ j w
def Leave : Option Code → List Item → Prop
  | none, k => k = []
  | some .ret, k => ∃ k1, k = .code .ret :: k1
  | some (.exit id), k => ∃ k1, k = .code (.exit id) :: k1 ∧ exitTo id k1 = none
  | _, _ => False
def Done (C : Cx) (m : Machine) (b : Frame) (cs : List Frame) : Prop := match C.ro with
  | none => ∃ v w' fr, C.Φ v w' ∧ Steps C.P m (lone fr cs w') ∧ fr.fn = C.f ∧ fr.leaving C.P w' (.returned v)
  | some _ => ∃ j a' w' k', C.Ψ j w' ∧ Steps C.P m (lone (b.atR a' k') cs w') ∧ Leave j k'
def Goes (C : Cx) (k : List Item) (a : Act) (w : World) : Prop := ∀ (b : Frame) (cs : List Frame), b.fn = C.f → b.kind = .normal → b.roundOf = C.ro → Done C (lone (b.atR a k) cs w) b cs
theorem Done.of_steps {C : Cx} {m m' : Machine} {b : Frame} {cs : List Frame} (h : Steps C.P m m') (d : Done C m' b cs) : Done C m b cs := by
  unfold Done at *
  split at d
  · obtain ⟨v, w', fr, h1, h2, h3⟩ := d; exact ⟨v, w', fr, h1, Steps.trans h h2, h3⟩
  · obtain ⟨j, a', w', k', h1, h2, h3⟩ := d; exact ⟨j, a', w', k', h1, Steps.trans h h2, h3⟩

def noDefer : Op → Bool
  | .defer _ => false
  | _ => true
def okOps (N : Nat) (ops : List Oper) : Bool := ops.all fun o => (match o.dst with | some d => decide (d < N) | none => true) && noDefer o.op
def okCode (N : Nat) : Code → Bool
  | .region _ ops _ => okOps N ops.toList
  | .seq a b => okCode N a && okCode N b
  | .cond _ a b => okCode N a && okCode N b
  | .block _ c => okCode N c
  | .loop c => okCode N c
  | .scope c => okCode N c
  | _ => true
def okItem (N : Nat) : Item → Bool
  | .code c => okCode N c
  | .inLoop c => okCode N c
  | .inRegion ops _ => okOps N ops.toList
  | _ => true
def okItems (N : Nat) (k : List Item) : Bool := k.all (okItem N)

def QN (C : Cx) (k : List Item) : Exit → Act → World → Prop
  | .normal, a, w => Goes C k a w
  | _, _, _ => False
/-- the fence: none, but for the round that it is in -/
def Cx.F (C : Cx) : Fence := match C.ro with | none => Fence.wide | some l => Fence.wide.inRound l
theorem Cx.F_fn (C : Cx) (f : FuncId) : C.F.fn f := by unfold Cx.F; split <;> exact trivial
theorem Cx.F_room (C : Cx) (n : Nat) : C.F.room n := by unfold Cx.F; split <;> exact room_wide n
theorem Cx.F_round (C : Cx) : C.F.round = C.ro := by
  unfold Cx.F; split <;> rename_i h <;> rw [h] <;> rfl
theorem Cx.F_depth (C : Cx) : C.F.depth = none := by unfold Cx.F; split <;> rfl
theorem Cx.F_steps {C : Cx} {m m' : Machine} (h : StepsIn (Machine.fenced C.P C.F) C.P m m') : Steps C.P m m' := StepsIn.steps h
theorem Cx.F_in {C : Cx} {m m' : Machine} (h : Steps C.P m m') : StepsIn (Machine.fenced C.P C.F) C.P m m' := by
  unfold Cx.F; split
  · exact stepsIn_wide.2 h
  · exact stepsIn_wide.2 h
def At (C : Cx) (all os : List Oper) (k : List Item) (a : Act) (w : World) : Prop :=
  wpOpsIn C.F 0 C.P all.toArray (QN C k) (List.range' (all.length - os.length) os.length) a w
/-- from every run of the model that stands so, it goes well -/
def AW (C : Cx) (all os : List Oper) (k : List Item) (σ : St) : Prop :=
  C.Ok → os <:+ all → okOps C.N all = true → okItems C.N k = true → ∀ ι S a w, Sim C.E C.N σ ι S a w → At C all os k a w

theorem at_nil {C : Cx} {all : List Oper} {k : List Item} {a : Act} {w : World} : At C all [] k a w ↔ Goes C k a w := by
  simp [At, wpOpsIn, QN]

def AL (C : Cx) (c : Code) (k : List Item) (σ : St) : Prop := AW C [] [] (.code c :: .inLoop c :: k) σ
def ADr (C : Cx) (id : Nat) (ops : List Oper) (k : List Item) (σ : St) : Prop := AW C [] [] (.code (.region id ops.toArray true) :: k) σ
def ACall (C : Cx) (n : Nat) (all : List Oper) (o : Oper) (os : List Oper) (k : List Item) (σ : St) (c : Bool) (need : Prop) (f : FuncId) (args : List AV) : Prop :=
  guardOf all σ o.guard = some c → aop (tk C.P) σ o.op = .call need f args → AW C all (o :: os) k σ
def BR (b : Bool) (x y : Prop) : Prop := bif b then x else y
theorem BR_true (x y : Prop) : BR true x y = x := rfl
theorem BR_false (x y : Prop) : BR false x y = y := rfl

/-- a function's end, or a round's -/
def aEnd (C : Cx) (σ : St) (j : Option Code) : Option Nat → Prop
  | none => aRet C σ (retAV (tk C.P) σ C.res)
  | some _ => C.R (jAV j) ⟨[], σ.h, σ.n⟩
def aOut (C : Cx) (σ : St) (id : Nat) : Option Nat → Prop
  | none => False
  | some _ => C.R (.it id) ⟨[], σ.h, σ.n⟩

section
variable (C : Cx)
mutual
def AWc : Nat → List Oper → List Oper → List Item → Bool → Oper → St → Res → Prop
  | n, all, os, k, c, o, σ, .val need v σ' => (c = true → need) ∧ AWn n all os k (St.put (bif c then σ' else σ) o.dst (mkg c v))
  | n, all, os, k, c, o, σ, .call need f args => ACall C n all o os k σ c need f args
  | _, all, os, k, _, o, σ, .bad => AW C all (o :: os) k σ
def AWg : Nat → List Oper → List Oper → List Item → Oper → St → Option Bool → Prop
  | _, all, os, k, o, σ, none => AW C all (o :: os) k σ
  | n, all, os, k, o, σ, some c => AWc n all os k c o σ (aop (tk C.P) σ o.op)
def AWi : Nat → Code → Code → List Item → St → Option (Bool × AV) → Prop
  | n, x, y, k, σ, some (c1, .f (.v (.bool b))) => c1 = true ∧ BR b (AWn n [] [] (.code x :: k) σ) (AWn n [] [] (.code y :: k) σ)
  | _, _, _, _, _, _ => False
def AWx : Nat → St → Nat → Option (List Item) → Prop
  | n, σ, _, some k => AWn n [] [] k σ
  | _, σ, id, none => aOut C σ id C.ro
def AWd : Nat → Nat → List Oper → List Item → St → Bool → Prop
  | n, _, ops, k, σ, false => AWn n ops ops k σ
  | _, id, ops, k, σ, true => ADr C id ops k σ
def AWn : Nat → List Oper → List Oper → List Item → St → Prop
  | 0, all, os, k, σ => AW C all os k σ
  | n + 1, all, o :: os, k, σ => AWg n all os k o σ (guardOf all σ o.guard)
  | n + 1, _, [], .code (.seq a b) :: k, σ => AWn n [] [] (.code a :: .code b :: k) σ
  | n + 1, _, [], .code (.region id ops d) :: k, σ => AWd n id ops.toList k σ d
  | n + 1, _, [], .code .skip :: k, σ => AWn n [] [] k σ
  | n + 1, _, [], .code (.label _) :: k, σ => AWn n [] [] k σ
  | n + 1, _, [], .code (.block id c) :: k, σ => AWn n [] [] (.code c :: .inBlock id :: k) σ
  | n + 1, _, [], .code (.cond c x y) :: k, σ => AWi n x y k σ (ev σ c)
  | n + 1, _, [], .code (.exit id) :: k, σ => AWx n σ id (exitTo id k)
  | _ + 1, _, [], .code .ret :: _, σ => aEnd C σ (some .ret) C.ro
  | _ + 1, _, [], [], σ => aEnd C σ none C.ro
  | n + 1, _, [], .inBlock _ :: k, σ => AWn n [] [] k σ
  | _ + 1, _, [], .code (.loop c) :: k, σ => AL C c k σ
  | _ + 1, _, [], .inLoop c :: k, σ => AL C c k σ
  | _ + 1, _, [], k, σ => AW C [] [] k σ
end
end

/- soundness -/
theorem Goes.head {C : Cx} {k k' : List Item} {a a' : Act} {w w' : World} (h : ∀ (b : Frame) (cs : List Frame), step C.P (lone (b.atR a k) cs w) = .next (lone (b.atR a' k') cs w')) (g : Goes C k' a' w') : Goes C k a w :=
  fun b cs h1 h2 h3 => .of_steps (.one (h b cs)) (g b cs h1 h2 h3)

theorem goes_of_wpIn {C : Cx} {c : Code} {k : List Item} {a : Act} {w : World} (h : c.wpIn C.F 0 C.P (QN C k) a w) : Goes C (.code c :: k) a w := by
  intro b cs h1 h2 h3
  obtain ⟨e, a', w', hq, harr⟩ := h b k cs (by rw [C.F_round]; exact h3) (C.F_fn _) (C.F_room _)
  cases e with
  | normal => exact .of_steps (Cx.F_steps harr) (hq b cs h1 h2 h3)
  | _ => exact hq.elim

theorem wp_in {C : Cx} {o : Oper} {a : Act} {w : World} {next : Act → World → Prop} {k : List Item} (hd : noDefer o.op = true) (h : o.wp C.P a w next (QN C k)) : o.wpIn C.F 0 C.P a w next (QN C k) := by
  have hsem : o.semAt C.F.round a.eval = execOp a.eval o := by
    unfold Oper.semAt
    split
    · rename_i ho; rw [ho] at hd; cases hd
    · rfl
  have hout : ∀ {Q}, LetsOut (QN C Q) → False := by
    rintro Q ⟨a, w, h⟩; exact h
  unfold Oper.wpIn
  refine ⟨fun f _ => C.F_fn f, ?_⟩
  rw [hsem]
  unfold Oper.wp at h
  generalize (execOp a.eval o).run C.P w = r at h ⊢
  cases r with
  | ok x w' =>
    cases x <;> simp only [Oper.upon, Oper.uponIn] at h ⊢ <;> first
      | exact h
      | (refine ⟨fun hh => (by rw [C.F_depth] at hh; cases hh), ?_⟩
         first
          | (have h' : CallsIn Fence.wide 0 C.P _ _ _ _ := callsIn_wide.2 h
             unfold Cx.F
             split
             · exact h'
             · exact CallsIn.inRound _ h')
          | (intro c cs _
             obtain ⟨v, w'', h1, h2⟩ := h c cs
             exact ⟨v, w'', h1, Cx.F_in h2⟩))
  | halt x w' => cases x <;> simp only [Oper.upon, Oper.uponIn] at h ⊢ <;> exact h

theorem exitTo_ok {N id : Nat} : ∀ {k k' : List Item}, exitTo id k = some k' → okItems N k = true → okItems N k' = true
  | [], k', h, _ => by simp [exitTo] at h
  | x :: k, k', h, hk => by
    simp only [okItems, List.all_cons, Bool.and_eq_true] at hk
    cases x <;> simp only [exitTo] at h <;> first
      | exact exitTo_ok h hk.2
      | (split at h
         · simp only [Option.some.injEq] at h; subst h; exact hk.2
         · exact exitTo_ok h hk.2)

section
variable {C : Cx}

def slot (a : Act) : ResultVar → Sem Value
  | .tmp t => pure (a.tmps.getD t undef)
  | .cell x t => do loadVar t (← asAddr (a.tmps.getD x undef))
theorem retAV_sound {σ : St} {ι : Nat → Loc} {S : Nat → Prop} {a : Act} {w : World} (hs : Sim C.E C.N σ ι S a w) : ∀ {rs : List ResultVar} {n : Prop} {vs : List AV}, retAV (tk C.P) σ rs = some (n, vs) → n →
    ∃ ys, (rs.mapM (slot a)).run C.P w = .ok ys w ∧ VRs S ι σ.n w vs ys
  | [], n, vs, h, hn => by
    simp only [retAV, Option.some.injEq, Prod.mk.injEq] at h
    obtain ⟨rfl, rfl⟩ := h
    exact ⟨[], by simp, by simp [VRs]⟩
  | .tmp t :: rs, n, vs, h, hn => by
    simp only [retAV] at h
    split at h
    · rename_i c v m us h1 h2
      simp only [Option.some.injEq, Prod.mk.injEq] at h
      obtain ⟨rfl, rfl⟩ := h
      obtain ⟨ys, hr, hv⟩ := retAV_sound hs h2 hn.2
      have e1 := ev_sound hs h1 hn.1
      refine ⟨a.tmps.getD t undef :: ys, ?_, by simp only [VRs]; exact ⟨_, _, rfl, e1, hv⟩⟩
      rw [List.mapM_cons]
      simp only [Sem.run_bind, hr, slot, Sem.run_pure, Result.andThen_ok]
    · cases h
  | .cell x t :: rs, n, vs, h, hn => by
    simp only [retAV] at h
    split at h
    · rename_i c v σ1 m us h1 h2
      simp only [Option.some.injEq, Prod.mk.injEq] at h
      obtain ⟨rfl, rfl⟩ := h
      obtain ⟨ys, hr, hv⟩ := retAV_sound hs h2 hn.2
      obtain ⟨rfl, y, b, o, e1, hl, hvy⟩ := load_core hs h1 hn.1
      refine ⟨y :: ys, ?_, by simp only [VRs]; exact ⟨_, _, rfl, hvy, hv⟩⟩
      have e1 : a.tmps.getD x undef = .pointer (some ⟨b, o, none⟩) := e1
      rw [List.mapM_cons]
      simp only [Sem.run_bind, hr, slot, e1, asAddr, hl, Sem.run_pure, Result.andThen_ok]
    · cases h

theorem run_mapM_toList {α β : Type} {P : Program} {w w' : World} (f : α → Sem β) (xs : Array α) {ys : List β} (h : (xs.toList.mapM f).run P w = .ok ys w') : (xs.mapM f).run P w = .ok ys.toArray w' := by
  have : xs.mapM f = List.toArray <$> xs.toList.mapM f := by rw [Array.mapM_eq_mapM_toList]
  rw [this]
  simp [h]

theorem aRet_sound {σ : St} {ι : Nat → Loc} {S : Nat → Prop} {a : Act} {w : World} (okfn : ∃ fn, C.P.funcs[C.f]? = some fn ∧ fn.results.toList = C.res) (hs : Sim C.E C.N σ ι S a w) (h : aRet C σ (retAV (tk C.P) σ C.res)) {fr : Frame} (h1 : fr.mode = .returning) (h2 : fr.defers = []) (h3 : fr.kind = .normal) (h4 : fr.fn = C.f) (h5 : fr.tmps = a.tmps) :
    ∃ v, Fin C v w ∧ fr.leaving C.P w (.returned v) := by
  unfold aRet at h
  split at h
  · rename_i n vs hr
    obtain ⟨ys, hrun, hv⟩ := retAV_sound hs hr h.1
    obtain ⟨fn, hf, hres⟩ := okfn
    rw [← hres] at hrun
    have hm := run_mapM_toList _ fn.results hrun
    have hres2 : ∀ v, (if h : ys.toArray.size = 1 then ys.toArray[0] else Value.tuple ys.toArray) = v → (results fn fr.tmps).run C.P w = .ok v w := by
      intro v hv
      have : results fn fr.tmps = (do let vs ← fn.results.mapM (slot a); pure (if h : vs.size = 1 then vs[0] else .tuple vs)) := by
        unfold results; rw [h5]; rfl
      rw [this]
      simp only [Sem.run_bind, hm, Result.andThen_ok, Sem.run_pure, hv]
    have hl := hv.length
    match vs, ys, hl, hv, h, hres2 with
    | [x], [y], _, hv, h, hres2 =>
      simp only [VRs] at hv
      obtain ⟨y', ys', e, hv, e'⟩ := hv
      subst e'
      simp only [List.cons.injEq, and_true] at e; subst e
      refine ⟨y, ⟨x, σ.h, σ.n, ι, S, h.2, hs.mem, hv⟩, h1, h2, h3, fn, by rw [h4]; exact hf, ?_⟩
      exact hres2 _ (by simp)
    | [], [], _, hv, h, hres2 =>
      refine ⟨.tuple #[], ⟨_, σ.h, σ.n, ι, S, h.2, hs.mem, by simp [tupOf, VR, VRs]⟩, h1, h2, h3, fn, by rw [h4]; exact hf, ?_⟩
      exact hres2 _ (by simp)
    | x :: x' :: xs, y :: y' :: ys, _, hv, h, hres2 =>
      refine ⟨.tuple (y :: y' :: ys).toArray, ⟨_, σ.h, σ.n, ι, S, h.2, hs.mem, by simp only [tupOf, VR]; exact ⟨_, rfl, hv⟩⟩, h1, h2, h3, fn, by rw [h4]; exact hf, ?_⟩
      exact hres2 _ (by simp)
  · exact h.elim

theorem suf_get {all : List Oper} {o : Oper} {os : List Oper} (h : o :: os <:+ all) : all.toArray[all.length - (o :: os).length]? = some o ∧ all.length - os.length = all.length - (o :: os).length + 1 := by
  obtain ⟨pre, rfl⟩ := h
  refine ⟨?_, ?_⟩
  · simp
  · simp; omega

theorem guard_sound {σ : St} {ι : Nat → Loc} {S : Nat → Prop} {a : Act} {w : World} (hs : Sim C.E C.N σ ι S a w) {all : List Oper} {o : Oper} {c : Bool} (h : guardOf all σ o.guard = some c) :
    Region.wanted o (yielded all.toArray a.tmps) = c := by
  unfold guardOf at h
  split at h
  · rename_i hg
    simp only [Option.some.injEq] at h
    simp [Region.wanted, hg, h]
  · rename_i j want hg
    split at h
    · rename_i d hd
      unfold gd at h
      split at h
      · rename_i c1 b h1
        simp only [Option.some.injEq] at h
        simp only [Region.wanted, hg]
        have hd' : (all.toArray[j]?).bind (·.dst) = some d := by simpa using hd
        simp only [yielded, hd', Option.bind_some]
        unfold ev evo evs at h1
        split at h1
        · rename_i v0 hl
          have hv := hs.tm d v0 hl
          simp only [Option.some.injEq] at h1
          cases v0
          case g x =>
            simp only [strip, Prod.mk.injEq] at h1
            obtain ⟨rfl, _⟩ := h1
            simp only [VR] at hv
            cases hx : a.tmps[d]? with
            | none => simp [← h]
            | some z =>
              have : z = undef := by simpa [Array.getD_eq_getD_getElem?, hx] using hv
              subst this
              simp [← h, undef]
          all_goals
            simp only [strip, Prod.mk.injEq] at h1
            obtain ⟨rfl, h1⟩ := h1
            first
              | cases h1; done
              | (simp only [AV.f.injEq] at h1
                 subst h1
                 have hv := vr_bool hv
                 cases hx : a.tmps[d]? with
                 | none => simp [Array.getD_eq_getD_getElem?, hx, undef] at hv
                 | some z =>
                   have : z = .bool b := by simpa [Array.getD_eq_getD_getElem?, hx] using hv
                   subst this
                   cases want <;> cases b <;> simp [← h])
        · cases h1
      · cases h
    · cases h


theorem okOps_mem {N : Nat} {all : List Oper} (h : okOps N all = true) {o : Oper} (ho : o ∈ all) : ∀ d, o.dst = some d → d < N := by
  intro d hd
  simp only [okOps, List.all_eq_true, Bool.and_eq_true] at h
  have := (h o ho).1
  rw [hd] at this
  simpa using this
theorem okOps_nd {N : Nat} {all : List Oper} (h : okOps N all = true) {o : Oper} (ho : o ∈ all) : noDefer o.op = true := by
  simp only [okOps, List.all_eq_true, Bool.and_eq_true] at h
  exact (h o ho).2

/-- one operation of a region -/
theorem at_step {all os : List Oper} {o : Oper} {k : List Item} {σ : St} {ι : Nat → Loc} {S : Nat → Prop} {a : Act} {w : World}
    (hw : ∀ c, guardOf all σ o.guard = some c → c = true → o.wp C.P a w (fun a' w' => At C all os k a' w') (QN C k))
    (hw' : ∀ c, guardOf all σ o.guard = some c → c = false → At C all os k (a.put o.dst undef) w)
    (hs : Sim C.E C.N σ ι S a w) {c : Bool} (hg : guardOf all σ o.guard = some c) (hsuf : o :: os <:+ all) (hok : okOps C.N all = true) : At C all (o :: os) k a w := by
  obtain ⟨h1, h2⟩ := suf_get hsuf
  have hwant := guard_sound hs hg
  unfold At
  rw [show (o :: os).length = os.length + 1 from rfl] at h1 h2 ⊢
  rw [List.range'_succ]
  simp only [wpOpsIn, h1]
  have hnd := okOps_nd hok (hsuf.subset (List.mem_cons_self ..))
  have hrest : wpOpsIn C.F 0 C.P all.toArray (QN C k) (List.range' (all.length - (os.length + 1) + 1) os.length) = fun a' w' => At C all os k a' w' := by
    funext a' w'
    rw [At, h2]
  rw [hwant, hrest]
  cases c with
  | true => simpa using wp_in hnd (hw true hg rfl)
  | false =>
    simp only [Bool.false_eq_true, if_false]
    exact ⟨fun f _ => C.F_fn f, hw' false hg rfl⟩

theorem wp_of_good {o : Oper} {a : Act} {w : World} {v : AV} {σ' : St} {k : List Item} {next : Act → World → Prop} (hgood : Good C.P C.E C.N a w (execOp a.eval o) v σ') (hd : ∀ d, o.dst = some d → d < C.N)
    (h : ∀ ι S a' w', Sim C.E C.N (σ'.put o.dst v) ι S a' w' → next a' w') : o.wp C.P a w next (QN C k) := by
  obtain ⟨y, w', ι', S', hr, hs', hv⟩ := hgood
  have := h ι' S' _ w' (hs'.put hd hv)
  unfold Oper.wp
  rcases hr with hr | ⟨hr, rfl⟩
  · rw [hr, Oper.upon_value]; exact this
  · rw [hr, Oper.upon_skip]; exact this

theorem put_false {σ : St} {ι : Nat → Loc} {S : Nat → Prop} {a : Act} {w : World} (hs : Sim C.E C.N σ ι S a w) {d : Option Nat} (hd : ∀ d', d = some d' → d' < C.N) (v : AV) : Sim C.E C.N (σ.put d (mkg false v)) ι S (a.put d undef) w :=
  hs.put hd (by simp [mkg, VR])

theorem awc_sound {n : Nat} (ih : ∀ all os k σ, AWn C n all os k σ → AW C all os k σ) {all os : List Oper} {k : List Item} {o : Oper} {σ : St} {c : Bool} (hg : guardOf all σ o.guard = some c) (h : AWc C n all os k c o σ (aop (tk C.P) σ o.op)) : AW C all (o :: os) k σ := by
  cases hr : aop (tk C.P) σ o.op with
  | bad => rw [hr] at h; simpa [AWc] using h
  | call need f args =>
    rw [hr] at h
    simp only [AWc, ACall] at h
    exact h hg hr
  | val need v σ' =>
    rw [hr] at h
    simp only [AWc] at h
    obtain ⟨hn, h⟩ := h
    intro ok hsuf hok hki ι S a w hs
    have hd := okOps_mem hok (hsuf.subset (List.mem_cons_self ..))
    have hsuf' : os <:+ all := (List.suffix_cons o os).trans hsuf
    refine at_step (σ := σ) ?_ ?_ hs hg hsuf hok
    · intro c' hc' hct
      rw [hg] at hc'; simp only [Option.some.injEq] at hc'
      subst hc' hct
      refine wp_of_good (aop_sound hs hr (hn rfl)) hd ?_
      intro ι' S' a' w' hs'
      exact ih _ _ _ _ h ok hsuf' hok hki ι' S' a' w' hs'
    · intro c' hc' hct
      rw [hg] at hc'; simp only [Option.some.injEq] at hc'
      subst hc' hct
      exact ih _ _ _ _ h ok hsuf' hok hki ι S _ w (put_false hs hd _)

theorem AWn_sound : ∀ (n : Nat) (all os : List Oper) (k : List Item) (σ : St), AWn C n all os k σ → AW C all os k σ := by
  intro n
  induction n with
  | zero => intro all os k σ h; simpa only [AWn] using h
  | succ n ih =>
    intro all os k σ h
    cases os with
    | cons o os =>
      simp only [AWn] at h
      cases hg : guardOf all σ o.guard with
      | none => rw [hg] at h; simpa [AWg] using h
      | some c =>
        rw [hg] at h
        simp only [AWg] at h
        exact awc_sound ih hg h
    | nil =>
      intro ok hsuf hok hki ι S a w hs
      rw [at_nil]
      have leave : ∀ j : Option Code, jOK j = true → aEnd C σ j C.ro → Leave j k → (C.ro = none → ∀ (b : Frame) (cs : List Frame), b.roundOf = none → ∃ k', step C.P (lone (b.atR a k) cs w) = .next (lone { b.atR a k' with mode := .returning } cs w)) → Goes C k a w := by
        intro j hj hr hlv hst b cs h1 h2 h3
        unfold Done
        split
        · rename_i hro
          rw [hro] at hr h3
          obtain ⟨k', hst⟩ := hst hro b cs h3
          obtain ⟨v, w', fr, hΦ, hsteps, hfn, hl⟩ := ok.fin hro σ ι S a w hs hr b cs k' h1 h2 h3
          exact ⟨v, w', fr, hΦ, .head hst hsteps, hfn, hl⟩
        · rename_i l hro
          rw [hro] at hr
          exact ⟨j, a, w, k, ok.finR (by rw [hro]; simp) j σ ι S a w hj hs hr, Steps.refl _ _, hlv⟩
      cases k with
      | nil =>
        simp only [AWn] at h
        exact leave none rfl h rfl (fun _ b cs hb => ⟨[], stepR_end hb⟩)
      | cons x k =>
        simp only [okItems, List.all_cons, Bool.and_eq_true] at hki
        have hkk : okItems C.N k = true := hki.2
        have nx : ∀ k', AWn C n [] [] k' σ → okItems C.N k' = true → Goes C k' a w := fun k' h' hok' => at_nil.1 (ih _ _ _ _ h' ok (List.suffix_refl _) rfl hok' ι S a w hs)
        have aw : ∀ k', AW C [] [] k' σ → okItems C.N k' = true → Goes C k' a w := fun k' h' hok' => at_nil.1 (h' ok (List.suffix_refl _) rfl hok' ι S a w hs)
        have hself : okItems C.N (x :: k) = true := by simp only [okItems, List.all_cons, Bool.and_eq_true]; exact hki
        cases x with
        | code c =>
          have hc : okCode C.N c = true := hki.1
          cases c with
          | skip => simp only [AWn] at h; exact .head (fun _ _ => stepR_skip) (nx _ h hkk)
          | region id ops d =>
            simp only [AWn] at h
            cases d with
            | true =>
              simp only [AWd, ADr, Array.toArray_toList] at h
              exact aw _ h hself
            | false =>
              simp only [AWd] at h
              refine goes_of_wpIn (wpIn_region ?_)
              have := ih _ _ _ _ h ok (List.suffix_refl _) hc hkk ι S a w hs
              simpa [At, List.range_eq_range'] using this
          | seq x y =>
            simp only [AWn] at h
            simp only [okCode, Bool.and_eq_true] at hc
            exact .head (fun _ _ => stepR_seq) (nx _ h (by simp only [okItems, List.all_cons, Bool.and_eq_true, okItem]; exact ⟨hc.1, hc.2, hkk⟩))
          | cond c x y =>
            simp only [AWn] at h
            simp only [okCode, Bool.and_eq_true] at hc
            unfold AWi at h
            split at h
            · rename_i c1 b h1
              obtain ⟨hc1, h⟩ := h
              have e1 := vr_bool (ev_sound hs h1 hc1)
              refine .head (fun _ _ => stepR_cond e1) (nx _ ?_ ?_)
              · cases b <;> simpa [BR] using h
              · simp only [okItems, List.all_cons, Bool.and_eq_true, okItem]
                cases b <;> simp only [if_true, if_false, Bool.false_eq_true]
                · exact ⟨hc.2, hkk⟩
                · exact ⟨hc.1, hkk⟩
            · exact h.elim
          | block id c =>
            simp only [AWn] at h
            simp only [okCode] at hc
            exact .head (fun _ _ => stepR_block) (nx _ h (by simp only [okItems, List.all_cons, Bool.and_eq_true, okItem]; exact ⟨hc, trivial, hkk⟩))
          | loop c =>
            simp only [AWn, AL] at h
            simp only [okCode] at hc
            exact .head (fun _ _ => stepR_loop) (aw _ h (by simp only [okItems, List.all_cons, Bool.and_eq_true, okItem]; exact ⟨hc, hc, hkk⟩))
          | rangeFunc => simp only [AWn] at h; exact aw _ h hself
          | exit id =>
            simp only [AWn] at h
            cases hx : exitTo id k with
            | none =>
              rw [hx] at h
              simp only [AWx] at h
              unfold aOut at h
              split at h
              · exact h.elim
              · rename_i l hro
                refine leave (some (.exit id)) rfl (by rw [hro]; exact h) ⟨k, rfl, hx⟩ (fun hn => by rw [hro] at hn; cases hn)
            | some k' =>
              rw [hx] at h
              simp only [AWx] at h
              exact .head (fun _ _ => stepR_exit hx) (nx _ h (exitTo_ok hx hkk))
          | scope => simp only [AWn] at h; exact aw _ h hself
          | label => simp only [AWn] at h; exact .head (fun _ _ => stepR_label) (nx _ h hkk)
          | goto => simp only [AWn] at h; exact aw _ h hself
          | ret => simp only [AWn] at h; exact leave (some .ret) rfl h ⟨k, rfl⟩ (fun _ b cs hb => ⟨_, stepR_ret hb⟩)
          | refuse => simp only [AWn] at h; exact aw _ h hself
        | inBlock id => simp only [AWn] at h; exact .head (fun _ _ => stepR_inBlock) (nx _ h hkk)
        | inLoop c =>
          simp only [AWn, AL] at h
          have hc : okCode C.N c = true := hki.1
          exact .head (fun _ _ => stepR_inLoop) (aw _ h (by simp only [okItems, List.all_cons, Bool.and_eq_true, okItem]; exact ⟨hc, hc, hkk⟩))
        | _ => simp only [AWn] at h; exact aw _ h hself
end
end Go.Fw
