/-
  Fw16: regions whose operations may come in more than one order.
-/
import Derived.Test.YtddbbfonkgccnaaDoorFw15
import Derived.Orders
set_option linter.unusedVariables false
namespace Go.Fw
open Go

/-- operations that leave the world as it is (0), that make something frozen at once (1), calls (2), others (3) -/
def qk : Op → Nat
  | .move _ => 0
  | .assign _ => 0
  | .pick .. => 0
  | .binOp .. => 0
  | .unOp .. => 0
  | .load .. => 0
  | .fieldAddr .. => 0
  | .field .. => 0
  | .indexAddr .. => 0
  | .index .. => 0
  | .extract .. => 0
  | .nilCheck _ => 0
  | .build .. => 0
  | .makeFunc .. => 0
  | .slice .. => 0
  | .buildSlice .. => 1
  | .convert .. => 1
  | .call c => match c.callee with
    | .builtin .len => 0
    | .value _ => 2
    | _ => 3
  | _ => 3

theorem same_sound {P : Program} {E : Ent} {N : Nat} {σ σ' : St} {ι : Nat → Loc} {S : Nat → Prop} {a : Act} {w : World} {v : AV} {need : Prop} (hs : Sim E N σ ι S a w) {o : Oper} (hq : qk o.op = 0) (h : aop (tk P) σ o.op = .val need v σ') (hn : need) : GoodS P σ ι S w (execOp a.eval o) v σ' := by
  cases ho : o.op <;> rw [ho] at h hq <;> simp only [aop, reduceCtorEq] at h <;> first | (exfalso; revert hq; simp [qk]; done) | skip
  case move x => obtain ⟨rfl, hv⟩ := s_move hs h hn; exact .same hs (by simp [execOp, ho]) hv
  case assign x => obtain ⟨rfl, hv⟩ := s_move hs h hn; exact .same hs (by simp [execOp, ho]) hv
  case pick => exact s_pick hs ho h hn
  case build => exact s_build hs ho h hn
  case load => exact s_load hs ho h hn
  case nilCheck => exact s_nil hs ho h hn
  case binOp => exact s_bin hs ho h hn
  case unOp op T x =>
    cases op <;> simp only [reduceCtorEq] at h
    all_goals first | exact s_not hs ho h hn | exact s_neg hs ho h hn | exact s_xor hs ho h hn
  case makeFunc => exact s_mkFunc hs ho h hn
  case slice T x lo hi mx =>
    cases mx <;> simp only [reduceCtorEq] at h
    exact s_slice hs ho h hn
  case fieldAddr => exact s_fieldAddr hs ho h hn
  case field => exact s_field hs ho h hn
  case indexAddr => exact s_indexAddr hs ho h hn
  case index => exact s_index hs ho h hn
  case extract => exact s_extract hs ho h hn
  case call c =>
    split at h
    · rename_i hc
      split at h
      · rename_i x t hx ht
        have e1 : c.args = #[x] := by rw [← Array.toArray_toList (xs := c.args), hx]
        have e2 : c.argTypes = #[t] := by rw [← Array.toArray_toList (xs := c.argTypes), ht]
        refine s_len hs (U := o.type) ?_ h hn
        simp [execOp, ho, resolve, hc, e1, e2, invoke, builtin]
      · cases h
    · rename_i hc
      simp [qk, hc] at hq
    · unfold aCallV at h
      split at h <;> cases h
    · cases h

def pickT (t : List (Nat × AV)) : List Nat → List (Nat × AV)
  | [] => []
  | x :: xs => match lk x t with
    | some v => (x, v) :: pickT t xs
    | none => pickT t xs
def putT (t : List (Nat × AV)) (d : Option Nat) (v : AV) : List (Nat × AV) := match d with | some d => (d, v) :: t | none => t

/-- an operation does its own, from wherever it is ready -/
def StepOK (C : Cx) (L : List Oper) (k : List Item) (h : Heap) (m : Nat) (o : Oper) (t : List (Nat × AV)) (v : AV) : Prop :=
  ∀ u ι S a w, Sim C.E C.N ⟨u, h, m⟩ ι S a w → (∀ x ∈ o.looksAt L.toArray, ∀ z, lk x t = some z → lk x u = some z) → (∀ d, o.dst = some d → d < C.N) →
    ∀ next : Act → World → Prop, (∀ ι' S' a' w', Sim C.E C.N ⟨putT u o.dst v, h, m⟩ ι' S' a' w' → next a' w') →
      (Region.wanted o (yielded L.toArray a.tmps) = true → o.wp C.P a w next (QN C k)) ∧ (Region.wanted o (yielded L.toArray a.tmps) = false → next (a.put o.dst undef) w)
section
variable (C : Cx) (L : List Oper) (fuel : Nat) (tail : List Oper) (k : List Item) (h : Heap) (m : Nat)
mutual
def VQc : Nat → List Oper → Oper → List (Nat × AV) → Bool → Res → Prop
  | n, os, o, t, c, .val need v _ => (c = true → need) ∧ VQ n os (putT t o.dst (mkg c v))
  | n, os, o, t, c, .call need f args => VQp n os o t c need f args
  | n, os, o, t, c, .bad => VQs n os o t c
def VQs : Nat → List Oper → Oper → List (Nat × AV) → Bool → Prop
  | n, os, o, t, c => ∃ v, StepOK C L k h m o t (mkg c v) ∧ VQ n os (putT t o.dst (mkg c v))
def VQp : Nat → List Oper → Oper → List (Nat × AV) → Bool → Prop → FuncId → List AV → Prop
  | n, os, o, t, c, need, f, args => ∃ as r, (c = true → need ∧ enters C.P f = true ∧ AV.fzs args = some as ∧ PC C.P f as (· = r)) ∧ VQ n os (putT t o.dst (mkg c (.f r)))
def VQz : Nat → List Oper → Oper → List (Nat × AV) → Bool → Prop → Option (Prop × FV × St) → Prop
  | n, os, o, t, c, need, some (d, y, _) => (c = true → need ∧ d) ∧ VQ n os (putT t o.dst (mkg c (.f y)))
  | _, _, _, _, _, _, none => False
def VQf : Nat → List Oper → Oper → List (Nat × AV) → Bool → Res → Prop
  | n, os, o, t, c, .val need v σ' => VQz n os o t c need (release σ' v)
  | n, os, o, t, c, _ => VQs n os o t c
def VQk : Nat → List Oper → Oper → List (Nat × AV) → Bool → Nat → Prop
  | n, os, o, t, c, 0 => VQc n os o t c (aop (tk C.P) ⟨pickT t (o.looksAt L.toArray), h, m⟩ o.op)
  | n, os, o, t, c, 1 => VQf n os o t c (aop (tk C.P) ⟨pickT t (o.looksAt L.toArray), [], m⟩ o.op)
  | n, os, o, t, c, 2 => VQc n os o t c (aop (tk C.P) ⟨pickT t (o.looksAt L.toArray), h, m⟩ o.op)
  | n, os, o, t, c, _ => VQs n os o t c
def VQg : Nat → List Oper → Oper → List (Nat × AV) → Option Bool → Prop
  | n, os, o, t, some c => VQk n os o t c (qk o.op)
  | _, _, _, _, none => False
def VQ : Nat → List Oper → List (Nat × AV) → Prop
  | _, [], t => AWn C fuel L tail k ⟨t, h, m⟩
  | n + 1, o :: os, t => VQg n os o t (guardOf L ⟨pickT t (o.looksAt L.toArray), h, m⟩ o.guard)
  | 0, _ :: _, _ => False
end
end

theorem lk_pickT (t : List (Nat × AV)) : ∀ (xs : List Nat) (x : Nat) {v : AV}, lk x (pickT t xs) = some v → x ∈ xs ∧ lk x t = some v
  | [], x, v, h => by simp [pickT, lk] at h
  | y :: ys, x, v, h => by
    simp only [pickT] at h
    split at h
    · rename_i u hu
      rw [lk_cons] at h
      split at h
      · rename_i e; subst e
        exact ⟨by simp, hu.trans h⟩
      · obtain ⟨h1, h2⟩ := lk_pickT t ys x h
        exact ⟨by simp [h1], h2⟩
    · obtain ⟨h1, h2⟩ := lk_pickT t ys x h
      exact ⟨by simp [h1], h2⟩

def Chain (C : Cx) (L : List Oper) (k : List Item) (h : Heap) (m : Nat) : List Oper → List (Nat × AV) → List AV → List (Nat × AV) → Prop
  | [], t, vs, t' => vs = [] ∧ t' = t
  | o :: os, t, vs, t' => ∃ v vs', vs = v :: vs' ∧ StepOK C L k h m o t v ∧ Chain C L k h m os (putT t o.dst v) vs' t'

section
variable {C : Cx} {L : List Oper} {fuel : Nat} {tail : List Oper} {k : List Item} {h : Heap} {m : Nat}

theorem put_putT (t : List (Nat × AV)) (d : Option Nat) (v : AV) : St.put ⟨t, h, m⟩ d v = ⟨putT t d v, h, m⟩ := by cases d <;> rfl

theorem sim_pick {E : Ent} {N : Nat} {u t : List (Nat × AV)} {ι : Nat → Loc} {S : Nat → Prop} {a : Act} {w : World} (hs : Sim E N ⟨u, h, m⟩ ι S a w) {xs : List Nat} (hl : ∀ x ∈ xs, ∀ z, lk x t = some z → lk x u = some z) : Sim E N ⟨pickT t xs, h, m⟩ ι S a w :=
  ⟨hs.mem, hs.tsz, fun x v hx => by
    obtain ⟨h1, h2⟩ := lk_pickT t xs x hx
    exact hs.tm x v (hl x h1 v h2), hs.def0⟩

theorem step_val {o : Oper} {t : List (Nat × AV)} {c : Bool} {need : Prop} {v : AV} {σ' : St} (hq : qk o.op = 0) (hg : guardOf L ⟨pickT t (o.looksAt L.toArray), h, m⟩ o.guard = some c)
    (hr : aop (tk C.P) ⟨pickT t (o.looksAt L.toArray), h, m⟩ o.op = .val need v σ') (hn : c = true → need) : StepOK C L k h m o t (mkg c v) := by
  intro u ι S a w hs hl hd next hnext
  have hp := sim_pick hs hl
  have hw := guard_sound (C := C) hp hg
  rw [hw]
  constructor
  · rintro rfl
    obtain ⟨rfl, y, hrun, hv⟩ := same_sound hp hq hr (hn rfl)
    unfold Oper.wp
    rw [hrun, Oper.upon_value]
    refine hnext ι S _ w ?_
    rw [← put_putT]
    exact hs.put hd hv
  · rintro rfl
    refine hnext ι S _ w ?_
    rw [← put_putT]
    exact put_false hs hd v

theorem step_call {o : Oper} {t : List (Nat × AV)} {c : Bool} {need : Prop} {f : FuncId} {args : List AV} {as : List FV} {r : FV} (hg : guardOf L ⟨pickT t (o.looksAt L.toArray), h, m⟩ o.guard = some c)
    (hr : aop (tk C.P) ⟨pickT t (o.looksAt L.toArray), h, m⟩ o.op = .call need f args) (hn : c = true → need ∧ enters C.P f = true ∧ AV.fzs args = some as ∧ PC C.P f as (· = r)) : StepOK C L k h m o t (mkg c (.f r)) := by
  intro u ι S a w hs hl hd next hnext
  have hp := sim_pick hs hl
  have hw := guard_sound (C := C) hp hg
  rw [hw]
  constructor
  · rintro rfl
    obtain ⟨hnn, hen, hfz, hpc⟩ := hn rfl
    obtain ⟨cl, x, ho, hcal, hcall⟩ := call_val hr
    obtain ⟨vals, hrun, hv⟩ := s_call hp ho hcal hcall hnn hen
    refine wp_pure (w0 := w) hrun hpc hs (fzs_sound _ hfz hv) hd ?_
    rintro r' S' a' w' rfl hs'
    refine hnext ι S' a' w' ?_
    rw [put_putT] at hs'
    exact hs'
  · rintro rfl
    refine hnext ι S _ w ?_
    rw [← put_putT]
    exact put_false hs hd _

theorem step_frz {o : Oper} {t : List (Nat × AV)} {c : Bool} {need d : Prop} {v : AV} {σ' σ'' : St} {y : FV} (hg : guardOf L ⟨pickT t (o.looksAt L.toArray), h, m⟩ o.guard = some c)
    (hr : aop (tk C.P) ⟨pickT t (o.looksAt L.toArray), [], m⟩ o.op = .val need v σ') (hrel : release σ' v = some (d, y, σ'')) (hn : c = true → need ∧ d) : StepOK C L k h m o t (mkg c (.f y)) := by
  intro u ι S a w hs hl hd next hnext
  have hp := sim_pick hs hl
  have hw := guard_sound (C := C) hp hg
  rw [hw]
  constructor
  · rintro rfl
    obtain ⟨hnn, hdd⟩ := hn rfl
    let E' : Ent := ⟨w, ι, m, fun _ => False, S, C.E.defs⟩
    have hm0 : Mem E' [] m ι S w :=
      { obj := fun id o h => by simp [lk] at h
        own := fun id o b h => by simp [lk] at h
        inj := fun id id' o o' b h => by simp [lk] at h
        slt := hs.mem.slt
        ssub := fun b h => .inl h
        ssup := fun b h => h
        keep := fun b hb _ => rfl
        size := Nat.le_refl _
        os := rfl
        tape := rfl
        output := rfl
        names := Nat.le_refl _
        same := fun _ _ => rfl }
    have hs0 : Sim E' C.N ⟨pickT t (o.looksAt L.toArray), [], m⟩ ι S a w := ⟨hm0, hp.tsz, hp.tm, hp.def0⟩
    obtain ⟨z, w', ι', S1, hrun, hs1, hv1⟩ := aop_sound hs0 hr hnn
    obtain ⟨S2, hS12, hs2, hf2, _, _⟩ := release_sound v hs1 hrel hdd hv1
    have hq : Quiet w w' := ⟨fun b hb => hs2.mem.keep b hb (fun h => h), hs2.mem.size, hs2.mem.os, hs2.mem.tape, hs2.mem.output⟩
    have hSS : ∀ b, S b → S2 b := fun b hb => hs2.mem.ssup b hb
    have hs' : Sim C.E C.N ⟨u, h, m⟩ ι S2 a w' := (hs.quiet hq).more hSS (fun b hb => by
      rcases hs2.mem.ssub b hb with h' | h' | h'
      · exact .inl h'
      · exact h'.elim
      · exact .inr ⟨hs2.mem.slt b hb, .inr (Nat.le_trans hs.mem.size h'), fun id o hl hb' => absurd (hs.mem.own id o b hl hb').1 (Nat.not_lt.2 h')⟩)
    have fin := hs'.put hd (v := .f y) (y := z) (by simpa only [VR] using hf2)
    rw [put_putT] at fin
    unfold Oper.wp
    rcases hrun with hrun | ⟨hrun, rfl⟩
    · rw [hrun, Oper.upon_value]
      exact hnext ι S2 _ w' fin
    · rw [hrun, Oper.upon_skip]
      exact hnext ι S2 _ w' fin
  · rintro rfl
    refine hnext ι S _ w ?_
    rw [← put_putT]
    exact put_false hs hd _

theorem VQ_chain : ∀ (os : List Oper) (n : Nat) (t : List (Nat × AV)), VQ C L fuel tail k h m n os t → ∃ vs t', Chain C L k h m os t vs t' ∧ AWn C fuel L tail k ⟨t', h, m⟩
  | [], n, t, hv => by
    cases n <;> simp only [VQ] at hv <;> exact ⟨[], t, ⟨rfl, rfl⟩, hv⟩
  | o :: os, 0, t, hv => by simp only [VQ] at hv
  | o :: os, n + 1, t, hv => by
    simp only [VQ] at hv
    cases hg : guardOf L ⟨pickT t (o.looksAt L.toArray), h, m⟩ o.guard with
    | none => rw [hg] at hv; simp only [VQg] at hv
    | some c =>
      rw [hg] at hv
      simp only [VQg] at hv
      have fin : ∀ v, StepOK C L k h m o t v → VQ C L fuel tail k h m n os (putT t o.dst v) → ∃ vs t', Chain C L k h m (o :: os) t vs t' ∧ AWn C fuel L tail k ⟨t', h, m⟩ := by
        intro v hst hvq
        obtain ⟨vs, t', hc, ha⟩ := VQ_chain os n _ hvq
        exact ⟨v :: vs, t', ⟨v, vs, rfl, hst, hc⟩, ha⟩
      have own : VQs C L fuel tail k h m n os o t c → ∃ vs t', Chain C L k h m (o :: os) t vs t' ∧ AWn C fuel L tail k ⟨t', h, m⟩ := by
        intro hs
        simp only [VQs] at hs
        obtain ⟨v, h1, h2⟩ := hs
        exact fin _ h1 h2
      match hq : qk o.op, hv with
      | 0, hv =>
        simp only [VQk] at hv
        cases hr : aop (tk C.P) ⟨pickT t (o.looksAt L.toArray), h, m⟩ o.op with
        | val need v σ' =>
          rw [hr] at hv
          simp only [VQc] at hv
          exact fin _ (step_val hq hg hr hv.1) hv.2
        | call need f args =>
          rw [hr] at hv
          simp only [VQc, VQp] at hv
          obtain ⟨as, r, h1, h2⟩ := hv
          exact fin _ (step_call hg hr h1) h2
        | bad => rw [hr] at hv; simp only [VQc] at hv; exact own hv
      | 1, hv =>
        simp only [VQk] at hv
        cases hr : aop (tk C.P) ⟨pickT t (o.looksAt L.toArray), [], m⟩ o.op with
        | val need v σ' =>
          rw [hr] at hv
          simp only [VQf] at hv
          cases hrel : release σ' v with
          | none => rw [hrel] at hv; simp only [VQz] at hv
          | some q =>
            obtain ⟨d, y, σ''⟩ := q
            rw [hrel] at hv
            simp only [VQz] at hv
            exact fin _ (step_frz hg hr hrel hv.1) hv.2
        | call need f args => rw [hr] at hv; simp only [VQf] at hv; exact own hv
        | bad => rw [hr] at hv; simp only [VQf] at hv; exact own hv
      | 2, hv =>
        simp only [VQk] at hv
        cases hr : aop (tk C.P) ⟨pickT t (o.looksAt L.toArray), h, m⟩ o.op with
        | val need v σ' =>
          exfalso
          cases ho : o.op with
          | call cl =>
            rw [ho] at hr hq
            simp only [aop, qk] at hr hq
            split at hr
            · rename_i hc; simp [hc] at hq
            · rename_i hc; simp [hc] at hq
            · unfold aCallV at hr; split at hr <;> cases hr
            · cases hr
          | _ => rw [ho] at hq; simp [qk] at hq
        | call need f args =>
          rw [hr] at hv
          simp only [VQc, VQp] at hv
          obtain ⟨as, r, h1, h2⟩ := hv
          exact fin _ (step_call hg hr h1) h2
        | bad => rw [hr] at hv; simp only [VQc] at hv; exact own hv
      | n + 3, hv => simp only [VQk] at hv; exact own hv

/- orders -/
def predsOf (L : List Oper) (i : Nat) : List Nat := match L[i]? with
  | some o => (o.after.toList.filter (Region.binds .any)).map (·.on)
  | none => []
def addNew (S : List Nat) (x : Nat) : List Nat := bif S.contains x then S else x :: S
def addAll : List Nat → List Nat → List Nat
  | S, [] => S
  | S, x :: xs => addAll (addNew S x) xs
def grow (L : List Oper) : Nat → List Nat → List Nat
  | 0, S => S
  | n + 1, S => grow L n (addAll S (S.flatMap (predsOf L)))
def reach (L : List Oper) (n i q : Nat) : Bool := (grow L n (predsOf L i)).contains q
def writes (o : Oper) (x : Nat) : Bool := o.dst == some x
def clash (L : List Oper) (a b : Oper) : Bool :=
  (match a.dst with | some d => (b.looksAt L.toArray).contains d || b.dst == some d | none => false) || (match b.dst with | some d => (a.looksAt L.toArray).contains d | none => false)
def pairOK (L : List Oper) (j i : Nat) : Bool := match L[j]?, L[i]? with
  | some a, some b => !clash L a b || (predsOf L i).contains j
  | _, _ => true
def drawOK (p : Nat) (L : List Oper) : Bool :=
  (List.range L.length).all fun i => (predsOf L i).all (fun j => decide (j < i)) && (!decide (i < p) || (List.range i).all fun j => pairOK L j i) && (decide (i < p) || (List.range i).all fun q => reach L 9 i q)

structure DrawOK (p : Nat) (L : List Oper) : Prop where
  down : ∀ i j, i < L.length → j ∈ predsOf L i → j < i
  pair : ∀ i j, i < L.length → i < p → j < i → pairOK L j i = true
  tail : ∀ i q, i < L.length → p ≤ i → q < i → reach L 9 i q = true
theorem drawOK_spec {p : Nat} {L : List Oper} (h : drawOK p L = true) : DrawOK p L := by
  simp only [drawOK, List.all_eq_true, List.mem_range, Bool.and_eq_true, Bool.or_eq_true, Bool.not_eq_true', decide_eq_true_eq, decide_eq_false_iff_not] at h
  refine ⟨fun i j hi hj => (h i hi).1.1 j hj, fun i j hi hp hj => ?_, fun i q hi hp hq => ?_⟩
  · rcases (h i hi).1.2 with h' | h'
    · exact absurd hp h'
    · exact h' j hj
  · rcases (h i hi).2 with h' | h'
    · omega
    · exact h' q hq

def putO (t : List (Nat × AV)) : Option Oper → AV → List (Nat × AV)
  | some o, v => putT t o.dst v
  | none, _ => t
/-- slots behind the operations done of the first ones -/
def TDn (L : List Oper) (V : Nat → AV) (t0 : List (Nat × AV)) (D : Nat → Bool) : Nat → List (Nat × AV)
  | 0 => t0
  | i + 1 => match D i with
    | true => putO (TDn L V t0 D i) L[i]? (V i)
    | false => TDn L V t0 D i
def dstAt (L : List Oper) (i : Nat) : Option Nat := (L[i]?).bind (·.dst)

section
variable {L : List Oper} {V : Nat → AV} {t0 : List (Nat × AV)}
theorem lk_TDn_succ (D : Nat → Bool) (i x : Nat) : lk x (TDn L V t0 D (i + 1)) = if D i = true ∧ dstAt L i = some x then some (V i) else lk x (TDn L V t0 D i) := by
  simp only [TDn, dstAt]
  cases hD : D i with
  | false => simp
  | true =>
   show lk x (putO (TDn L V t0 D i) L[i]? (V i)) = _
   obtain ⟨lo, hL⟩ : ∃ lo, L[i]? = lo := ⟨_, rfl⟩
   cases lo with
   | none => simp [hL, putO]
   | some o =>
    simp only [hL, putO]
    cases hd : o.dst with
    | none => simp [putT, hd]
    | some d =>
      simp only [putT, lk_cons, Option.bind_some, hd, Option.some.injEq]
      by_cases e : x = d
      · subst e; simp
      · have e' : ¬ d = x := fun h => e h.symm
        simp [e, e']
theorem lk_TDn_skip (D : Nat → Bool) (x : Nat) {i : Nat} : ∀ {j : Nat}, i ≤ j → (∀ q, i ≤ q → q < j → D q = true → dstAt L q ≠ some x) → lk x (TDn L V t0 D j) = lk x (TDn L V t0 D i) := by
  intro j
  induction j with
  | zero => intro h _; have : i = 0 := by omega
            subst this; rfl
  | succ j ih =>
    intro h hq
    by_cases e : i = j + 1
    · subst e; rfl
    · rw [lk_TDn_succ, if_neg (fun h' => hq j (by omega) (by omega) h'.1 h'.2)]
      exact ih (by omega) fun q h1 h2 => hq q h1 (by omega)
theorem lk_TDn_congr {D D' : Nat → Bool} (x : Nat) : ∀ {i : Nat}, (∀ q, q < i → dstAt L q = some x → D q = D' q) → lk x (TDn L V t0 D i) = lk x (TDn L V t0 D' i) := by
  intro i
  induction i with
  | zero => intro _; rfl
  | succ i ih =>
    intro h
    rw [lk_TDn_succ, lk_TDn_succ, ih fun q hq => h q (by omega)]
    by_cases e : dstAt L i = some x
    · rw [h i (by omega) e]
    · simp [e]
end

theorem chain_get {C : Cx} {L : List Oper} {k : List Item} {h : Heap} {m : Nat} : ∀ {os : List Oper} {t : List (Nat × AV)} {vs : List AV} {t' : List (Nat × AV)}, Chain C L k h m os t vs t' →
    t' = TDn os (fun i => vs.getD i (.tup [])) t (fun _ => true) os.length ∧ ∀ i o, os[i]? = some o → StepOK C L k h m o (TDn os (fun i => vs.getD i (.tup [])) t (fun _ => true) i) (vs.getD i (.tup []))
  | [], t, vs, t', hc => by obtain ⟨rfl, rfl⟩ := hc; exact ⟨rfl, fun i o h => by simp at h⟩
  | o :: os, t, vs, t', hc => by
    obtain ⟨v, vs', rfl, hst, hc⟩ := hc
    obtain ⟨h1, h2⟩ := chain_get hc
    have key : ∀ i, TDn (o :: os) (fun i => (v :: vs').getD i (.tup [])) t (fun _ => true) (i + 1) = TDn os (fun i => vs'.getD i (.tup [])) (putT t o.dst v) (fun _ => true) i := by
      intro i
      induction i with
      | zero => simp [TDn, putO]
      | succ i ih =>
        rw [TDn, ih]
        simp only [TDn, List.getElem?_cons_succ, List.getD_cons_succ]
    refine ⟨by rw [h1, List.length_cons, key], ?_⟩
    intro i o' ho
    cases i with
    | zero =>
      simp only [List.getElem?_cons_zero, Option.some.injEq] at ho
      subst ho
      exact hst
    | succ i =>
      rw [key]
      simp only [List.getElem?_cons_succ] at ho
      exact h2 i o' ho

def cnt (D : Nat → Bool) : Nat → Nat
  | 0 => 0
  | i + 1 => cnt D i + (if D i = true then 1 else 0)
theorem cnt_le (D : Nat → Bool) : ∀ n, cnt D n ≤ n
  | 0 => Nat.le_refl _
  | n + 1 => by simp only [cnt]; have := cnt_le D n; split <;> omega
theorem cnt_full {D : Nat → Bool} : ∀ {n : Nat}, cnt D n = n → ∀ i, i < n → D i = true
  | n + 1, h, i, hi => by
    simp only [cnt] at h
    have := cnt_le D n
    split at h
    · by_cases e : i = n
      · subst e; assumption
      · exact cnt_full (n := n) (by omega) i (by omega)
    · omega
theorem cnt_congr {D D' : Nat → Bool} : ∀ {n : Nat}, (∀ i, i < n → D i = D' i) → cnt D n = cnt D' n
  | 0, _ => rfl
  | n + 1, h => by simp only [cnt]; rw [h n (by omega), cnt_congr fun i hi => h i (by omega)]
theorem cnt_set {D D' : Nat → Bool} {q : Nat} : ∀ {n : Nat}, q < n → D q = false → D' q = true → (∀ i, i ≠ q → D' i = D i) → cnt D' n = cnt D n + 1
  | n + 1, hq, h1, h2, h3 => by
    simp only [cnt]
    by_cases e : q = n
    · subst e
      rw [h1, h2, cnt_congr fun i hi => h3 i (by omega)]
      simp
    · rw [h3 n (by omega), cnt_set (by omega) h1 h2 h3]
      omega

def dOf (listed : Array Bool) (i : Nat) : Bool := listed.getD i false
theorem ready_mem {L : List Oper} {listed : Array Bool} (hsz : listed.size = L.length) {i : Nat} : i ∈ Region.ready .any L.toArray listed ↔ i < L.length ∧ dOf listed i = false ∧ ∀ j ∈ predsOf L i, dOf listed j = true := by
  simp only [Region.ready, List.mem_filter, List.mem_range, List.size_toArray, Bool.and_eq_true, Bool.not_eq_true']
  constructor
  · rintro ⟨hi, h1, h2⟩
    have hlt : i < listed.size := by omega
    refine ⟨hi, ?_, ?_⟩
    · simpa [dOf, Array.getD, hlt] using h1
    · simp only [List.getElem?_toArray] at h2
      intro j hj
      unfold predsOf at hj
      rw [List.getElem?_eq_getElem hi] at h2 hj
      simp only [Option.map_some, Option.getD_some, Array.all_eq_true', Bool.or_eq_true, Bool.not_eq_true'] at h2
      simp only [List.mem_map, List.mem_filter] at hj
      obtain ⟨e, ⟨he, hb⟩, rfl⟩ := hj
      rcases h2 e (Array.mem_toList_iff.1 he) with h | h
      · rw [h] at hb; cases hb
      · exact h
  · rintro ⟨hi, h1, h2⟩
    have hlt : i < listed.size := by omega
    refine ⟨hi, ?_, ?_⟩
    · simpa [dOf, Array.getD, hlt] using h1
    · simp only [List.getElem?_toArray, List.getElem?_eq_getElem hi, Option.map_some, Option.getD_some, Array.all_eq_true', Bool.or_eq_true, Bool.not_eq_true']
      intro e he
      cases hb : Region.binds .any e with
      | false => exact .inl rfl
      | true =>
        refine .inr (h2 e.on ?_)
        unfold predsOf
        rw [List.getElem?_eq_getElem hi]
        exact List.mem_map.2 ⟨e, List.mem_filter.2 ⟨Array.mem_toList_iff.2 he, hb⟩, rfl⟩

theorem mem_addAll : ∀ (xs S : List Nat) {x : Nat}, x ∈ addAll S xs → x ∈ S ∨ x ∈ xs
  | [], S, x, h => .inl h
  | y :: ys, S, x, h => by
    simp only [addAll] at h
    rcases mem_addAll ys _ h with h | h
    · unfold addNew at h
      cases hc : S.contains y <;> rw [hc] at h
      · simp only [cond_false, List.mem_cons] at h
        rcases h with rfl | h
        · exact .inr (by simp)
        · exact .inl h
      · exact .inl h
    · exact .inr (by simp [h])
theorem grow_sound {L : List Oper} {D : Nat → Bool} (hdown : ∀ i, D i = true → ∀ j ∈ predsOf L i, D j = true) : ∀ (n : Nat) (S : List Nat), (∀ x ∈ S, D x = true) → ∀ x ∈ grow L n S, D x = true
  | 0, S, hS, x, h => hS x h
  | n + 1, S, hS, x, h => by
    simp only [grow] at h
    refine grow_sound hdown n _ (fun y hy => ?_) x h
    rcases mem_addAll _ _ hy with h | h
    · exact hS y h
    · obtain ⟨z, hz, hy⟩ := List.mem_flatMap.1 h
      exact hdown z (hS z hz) y hy
theorem reach_sound {L : List Oper} {D : Nat → Bool} (hdown : ∀ i, D i = true → ∀ j ∈ predsOf L i, D j = true) (n i q : Nat) (hi : ∀ j ∈ predsOf L i, D j = true) (h : reach L n i q = true) : D q = true := by
  simp only [reach, List.contains_iff_mem] at h
  exact grow_sound hdown n _ hi q h

section
variable {C : Cx} {L : List Oper} {k : List Item} {h : Heap} {m : Nat} {p : Nat}

theorem dOf_set {listed : Array Bool} {q : Nat} (hq : q < listed.size) (i : Nat) : dOf (listed.setIfInBounds q true) i = if i = q then true else dOf listed i := by
  simp only [dOf, Array.getD_eq_getD_getElem?, Array.getElem?_setIfInBounds]
  by_cases e : i = q
  · subst e; simp [hq]
  · rw [if_neg (fun h => e h.symm), if_neg e]

/-- behind the quiet ones, the others come as they stand -/
theorem any_tail (ok : DrawOK p L) : ∀ (fuel : Nat) (listed : Array Bool) (q : Nat), listed.size = L.length → p ≤ q → q ≤ L.length → (∀ i, i < L.length → (dOf listed i = true ↔ i < q)) → fuel + q = L.length →
    ∀ a w, At C L (L.drop q) k a w → wpAnyIn C.F 0 C.P .any L.toArray (QN C k) fuel listed a w := by
  intro fuel
  induction fuel with
  | zero =>
    intro listed q hsz hp hq hD hf a w hA
    have : q = L.length := by omega
    subst this
    refine ⟨?_, ?_⟩
    · apply List.eq_nil_iff_forall_not_mem.2
      intro i hi
      obtain ⟨h1, h2, _⟩ := (ready_mem hsz).1 hi
      have := (hD i h1).2 h1
      rw [this] at h2; cases h2
    · rw [List.drop_length] at hA
      exact at_nil.1 hA
  | succ fuel ih =>
    intro listed q hsz hp hq hD hf a w hA
    have hqlt : q < L.length := by omega
    have hqD : dOf listed q = false := by
      cases hd : dOf listed q with
      | false => rfl
      | true => have := (hD q hqlt).1 hd; omega
    have hready : q ∈ Region.ready .any L.toArray listed := (ready_mem hsz).2 ⟨hqlt, hqD, fun j hj => by
      have := ok.down q j hqlt hj
      exact (hD j (by omega)).2 this⟩
    refine ⟨fun he => (by rw [he] at hready; cases hready), ?_⟩
    intro i hi
    obtain ⟨h1, h2, h3⟩ := (ready_mem hsz).1 hi
    have hqi : i = q := by
      have hge : q ≤ i := by
        rcases Nat.lt_or_ge i q with hlt | hge
        · have := (hD i h1).2 hlt; rw [this] at h2; cases h2
        · exact hge
      rcases Nat.eq_or_lt_of_le hge with e | hlt
      · exact e.symm
      · exfalso
        have hr := ok.tail i q h1 (by omega) hlt
        have := reach_sound (D := dOf listed) (fun i' hi' j hj => by
          have hi'' : i' < L.length := by
            rcases Nat.lt_or_ge i' L.length with h | h
            · exact h
            · have : dOf listed i' = false := by simp [dOf, Array.getD, show ¬ i' < listed.size by omega]
              rw [this] at hi'; cases hi'
          have h5 := (hD i' hi'').1 hi'
          have h6 := ok.down i' j hi'' hj
          exact (hD j (by omega)).2 (by omega)) 9 i q h3 hr
        rw [hqD] at this; cases this
    subst hqi
    have hlen : (L.drop i).length = L.length - i := by simp
    have hdrop : L.drop i = L[i] :: L.drop (i + 1) := by rw [List.drop_eq_getElem_cons hqlt]
    have hstep : At C L (L.drop i) k a w = wpOpIn C.F 0 C.P L.toArray (QN C k) i (fun a w => At C L (L.drop (i + 1)) k a w) a w := by
      unfold At
      have e1 : L.length - (L.drop i).length = i := by simp; omega
      have e2 : (L.drop i).length = (L.drop (i + 1)).length + 1 := by simp; omega
      have e3 : L.length - (L.drop (i + 1)).length = i + 1 := by simp; omega
      rw [e1, e2, List.range'_succ, wpOpsIn_cons, e3]
    rw [hstep] at hA
    refine wpOpIn_mono ?_ hA
    intro a' w' hA'
    refine ih _ (i + 1) (by simpa using hsz) (by omega) (by omega) ?_ (by omega) a' w' hA'
    intro i' hi'
    rw [dOf_set (by omega)]
    by_cases e : i' = i
    · subst e; simp
    · rw [if_neg e, hD i' hi']; omega

theorem any_quiet (ok : DrawOK p L) (hp : p ≤ L.length) (hokd : okOps C.N L = true) {V : Nat → AV} {t0 : List (Nat × AV)} (hstep : ∀ i o, i < p → L[i]? = some o → StepOK C L k h m o (TDn L V t0 (fun _ => true) i) (V i))
    (hend : ∀ ι S a w, Sim C.E C.N ⟨TDn L V t0 (fun _ => true) p, h, m⟩ ι S a w → At C L (L.drop p) k a w) : ∀ (fuel : Nat) (listed : Array Bool), listed.size = L.length → (∀ i, dOf listed i = true → ∀ j ∈ predsOf L i, dOf listed j = true) →
    (∀ i, dOf listed i = true → i < p) → fuel + cnt (dOf listed) L.length = L.length →
    ∀ ι S a w, Sim C.E C.N ⟨TDn L V t0 (dOf listed) p, h, m⟩ ι S a w → wpAnyIn C.F 0 C.P .any L.toArray (QN C k) fuel listed a w := by
  intro fuel
  induction fuel with
  | zero =>
    intro listed hsz hdown hlt hf ι S a w hs
    have hfull := cnt_full (n := L.length) (D := dOf listed) (by omega)
    have hpe : p = L.length := by
      rcases Nat.eq_or_lt_of_le hp with e | hl
      · exact e
      · have := hlt p (hfull p hl); omega
    refine any_tail ok 0 listed p hsz (Nat.le_refl _) hp (fun i hi => ⟨fun h => hlt i h, fun h => hfull i hi⟩) (by omega) a w (hend ι S a w ?_)
    refine ⟨hs.mem, hs.tsz, fun x v hx => hs.tm x v ?_, hs.def0⟩
    rw [← hx]
    exact lk_TDn_congr x fun q hq _ => hfull q (by omega)
  | succ fuel ih =>
    intro listed hsz hdown hlt hf ι S a w hs
    by_cases hall : ∀ i, i < p → dOf listed i = true
    · -- all quiet ones are done
      have hcnt : cnt (dOf listed) L.length = p := by
        have key : ∀ n, cnt (dOf listed) n = if n ≤ p then n else p := by
          intro n
          induction n with
          | zero => simp [cnt]
          | succ n ihn =>
            simp only [cnt, ihn]
            by_cases hn : n < p
            · rw [hall n hn]
              simp only [if_true]
              rw [if_pos (by omega), if_pos (by omega)]
            · have : ¬ dOf listed n = true := fun h => hn (hlt n h)
              rw [if_neg this]
              split <;> split <;> omega
        rw [key]; split <;> omega
      refine any_tail ok (fuel + 1) listed p hsz (Nat.le_refl _) hp (fun i hi => ⟨fun h => hlt i h, fun h => hall i h⟩) (by omega) a w (hend ι S a w ?_)
      refine ⟨hs.mem, hs.tsz, fun x v hx => hs.tm x v ?_, hs.def0⟩
      rw [← hx]
      exact lk_TDn_congr x fun q hq _ => hall q hq
    · have hnot : ∃ q, q < p ∧ dOf listed q = false := by
        apply Classical.byContradiction
        intro hne
        apply hall
        intro i hi
        cases hd : dOf listed i with
        | true => rfl
        | false => exact absurd ⟨i, hi, hd⟩ hne
      have hleast : ∃ q, q < p ∧ dOf listed q = false ∧ ∀ j, j < q → dOf listed j = true := by
        obtain ⟨q, hq⟩ := hnot
        induction q using Nat.strongRecOn with
        | _ q ihq =>
          by_cases he : ∀ j, j < q → dOf listed j = true
          · exact ⟨q, hq.1, hq.2, he⟩
          · have : ∃ j, j < q ∧ dOf listed j = false := by
              apply Classical.byContradiction
              intro hne
              apply he
              intro j hj
              cases hd : dOf listed j with
              | true => rfl
              | false => exact absurd ⟨j, hj, hd⟩ hne
            obtain ⟨j, hj, hd⟩ := this
            exact ihq j hj ⟨by omega, hd⟩
      obtain ⟨q, hqp, hqD, hqb⟩ := hleast
      have hready : q ∈ Region.ready .any L.toArray listed := (ready_mem hsz).2 ⟨by omega, hqD, fun j hj => hqb j (ok.down q j (by omega) hj)⟩
      refine ⟨fun he => (by rw [he] at hready; cases hready), ?_⟩
      intro i hi
      obtain ⟨h1, h2, h3⟩ := (ready_mem hsz).1 hi
      have hip : i < p := by
        rcases Nat.lt_or_ge i p with hl | hge
        · exact hl
        · exfalso
          have := reach_sound (D := dOf listed) hdown 9 i q h3 (ok.tail i q h1 hge (by omega))
          rw [hqD] at this; cases this
      have hLi : L[i]? = some L[i] := List.getElem?_eq_getElem h1
      have hst := hstep i L[i] hip hLi
      have hd : ∀ d, L[i].dst = some d → d < C.N := okOps_mem hokd (List.getElem_mem h1)
      have pairs : ∀ j, j < p → ∀ x, ((x ∈ (L[i]).looksAt L.toArray ∨ (L[i]).dst = some x) ∧ dstAt L j = some x) → (j < i → j ∈ predsOf L i) ∧ (i < j → i ∈ predsOf L j) := by
        intro j hj x ⟨hx, hdx⟩
        have hjl : j < L.length := by omega
        have hLj : L[j]? = some L[j] := List.getElem?_eq_getElem hjl
        have hdj : L[j].dst = some x := by simpa [dstAt, hLj] using hdx
        constructor
        · intro hji
          have := ok.pair i j h1 hip hji
          simp only [pairOK, hLj, hLi, clash, hdj, Bool.or_eq_true, Bool.not_eq_true', List.contains_iff_mem, Bool.or_eq_false_iff] at this
          rcases this with ⟨⟨h4, h5⟩, _⟩ | h
          · rcases hx with hx | hx
            · have := List.contains_iff_mem.2 hx; rw [h4] at this; cases this
            · rw [hx] at h5; simp at h5
          · exact h
        · intro hij
          have := ok.pair j i hjl hj hij
          simp only [pairOK, hLj, hLi, clash, hdj, Bool.or_eq_true, Bool.not_eq_true', List.contains_iff_mem, Bool.or_eq_false_iff] at this
          rcases this with ⟨h4, h5⟩ | h
          · rcases hx with hx | hx
            · have := List.contains_iff_mem.2 hx; rw [h5] at this; cases this
            · rw [hx] at h4; simp at h4
          · exact h
      have hla : ∀ x ∈ (L[i]).looksAt L.toArray, lk x (TDn L V t0 (dOf listed) p) = lk x (TDn L V t0 (fun _ => true) i) := by
        intro x hx
        rw [lk_TDn_skip (dOf listed) x (i := i) (j := p) (by omega)]
        · refine lk_TDn_congr x fun j hj hdx => ?_
          exact h3 j ((pairs j (by omega) x ⟨.inl hx, hdx⟩).1 hj)
        · intro j hj1 hj2 hDj hdx
          rcases Nat.eq_or_lt_of_le hj1 with e | hlt'
          · subst e; rw [h2] at hDj; cases hDj
          · have := hdown j hDj i ((pairs j hj2 x ⟨.inl hx, hdx⟩).2 hlt')
            rw [h2] at this; cases this
      have hlisted : i < listed.size := by omega
      have hnext : ∀ ι' S' a' w', Sim C.E C.N ⟨putT (TDn L V t0 (dOf listed) p) L[i].dst (V i), h, m⟩ ι' S' a' w' → wpAnyIn C.F 0 C.P .any L.toArray (QN C k) fuel (listed.setIfInBounds i true) a' w' := by
        intro ι' S' a' w' hs'
        refine ih _ (by simpa using hsz) ?_ ?_ ?_ ι' S' a' w' ⟨hs'.mem, hs'.tsz, fun x v hx => hs'.tm x v ?_, hs'.def0⟩
        · intro i' hi' j hj
          rw [dOf_set hlisted] at hi' ⊢
          by_cases e : i' = i
          · subst e
            split
            · rfl
            · exact h3 j hj
          · rw [if_neg e] at hi'
            split
            · rfl
            · exact hdown i' hi' j hj
        · intro i' hi'
          rw [dOf_set hlisted] at hi'
          split at hi'
          · rename_i e; omega
          · exact hlt i' hi'
        · rw [cnt_set (D := dOf listed) (q := i) h1 h2 (by rw [dOf_set hlisted, if_pos rfl]) (fun j hj => by rw [dOf_set hlisted, if_neg hj])]
          omega
        · rw [← hx]
          have hput : lk x (putT (TDn L V t0 (dOf listed) p) L[i].dst (V i)) = if L[i].dst = some x then some (V i) else lk x (TDn L V t0 (dOf listed) p) := by
            cases hdd : L[i].dst with
            | none => simp [putT]
            | some d =>
              simp only [putT, lk_cons, Option.some.injEq]
              by_cases e : x = d
              · subst e; simp
              · rw [if_neg e, if_neg (fun h => e h.symm)]
          rw [hput]
          by_cases hdx : L[i].dst = some x
          · rw [if_pos hdx]
            rw [lk_TDn_skip (dOf (listed.setIfInBounds i true)) x (i := i + 1) (j := p) (by omega)]
            · rw [lk_TDn_succ, if_pos ⟨by rw [dOf_set hlisted, if_pos rfl], by simp [dstAt, hLi, hdx]⟩]
            · intro j hj1 hj2 hDj hdj
              rw [dOf_set hlisted, if_neg (by omega)] at hDj
              have := hdown j hDj i ((pairs j hj2 x ⟨.inr hdx, hdj⟩).2 (by omega))
              rw [h2] at this; cases this
          · rw [if_neg hdx]
            refine lk_TDn_congr x fun j hj hdj => ?_
            rw [dOf_set hlisted, if_neg]
            intro e; subst e
            simp only [dstAt, hLi, Option.bind_some] at hdj
            exact hdx hdj
      have hres := hst _ ι S a w hs (fun x hx z hz => by rw [hla x hx]; exact hz) hd (wpAnyIn C.F 0 C.P .any L.toArray (QN C k) fuel (listed.setIfInBounds i true)) hnext
      unfold wpOpIn
      simp only [List.getElem?_toArray, hLi]
      cases hw : Region.wanted L[i] (yielded L.toArray a.tmps) with
      | true => simp only [if_true]; exact wp_in (okOps_nd hokd (List.getElem_mem h1)) (hres.1 hw)
      | false => simp only [if_false, Bool.false_eq_true]; exact ⟨fun f _ => C.F_fn f, hres.2 hw⟩

theorem TDn_take (L : List Oper) (p : Nat) (V : Nat → AV) (t0 : List (Nat × AV)) : ∀ i, i ≤ p → TDn (L.take p) V t0 (fun _ => true) i = TDn L V t0 (fun _ => true) i := by
  intro i
  induction i with
  | zero => intro _; rfl
  | succ i ih =>
    intro hi
    simp only [TDn]
    rw [ih (by omega), List.getElem?_take, if_pos (by omega)]

/-- a region whose first operations are quiet, and whose others follow them as they stand -/
theorem ADr.intro {id : Nat} {σ : St} (p fuel : Nat) (hok : drawOK p L = true) (hp : p ≤ L.length) (hv : VQ C L fuel (L.drop p) k σ.h σ.n p (L.take p) σ.t) : ADr C id L k σ := by
  intro okC hsuf hoks hki ι S a w hs
  rw [at_nil]
  have ok := drawOK_spec hok
  simp only [okItems, List.all_cons, Bool.and_eq_true, okItem, okCode] at hki
  obtain ⟨vs, t', hc, ha⟩ := VQ_chain _ _ _ hv
  obtain ⟨h1, h2⟩ := chain_get hc
  have hlen : (L.take p).length = p := by simp; omega
  rw [hlen, TDn_take _ _ _ _ p (Nat.le_refl _)] at h1
  refine goes_of_wpIn (wpIn_region_any okC.mixed ?_)
  have hsz : (Array.replicate L.length false).size = L.length := by simp
  have hdf : ∀ i, dOf (Array.replicate L.length false) i = false := by
    intro i
    simp only [dOf, Array.getD_eq_getD_getElem?]
    by_cases hi : i < L.length <;> simp [hi]
  have hq := any_quiet (C := C) (k := k) (h := σ.h) (m := σ.n) ok hp hki.1 (V := fun i => vs.getD i (.tup [])) (t0 := σ.t)
    (fun i o hi ho => by
      have := h2 i o (by rw [List.getElem?_take, if_pos hi]; exact ho)
      rwa [TDn_take _ _ _ _ i (by omega)] at this)
    (fun ι S a w hs => by
      rw [h1] at ha
      exact AWn_sound _ _ _ _ _ ha okC (List.drop_suffix _ _) hki.1 hki.2 ι S a w hs)
    L.length (Array.replicate L.length false) hsz (fun i hi => by rw [hdf] at hi; cases hi) (fun i hi => by rw [hdf] at hi; cases hi)
    (by
      have : cnt (dOf (Array.replicate L.length false)) L.length = 0 := by
        have key : ∀ n, cnt (dOf (Array.replicate L.length false)) n = 0 := by
          intro n
          induction n with
          | zero => rfl
          | succ n ih => simp [cnt, ih, hdf]
        exact key _
      omega) ι S a { w with drawn := w.drawn + 1 } (by
      have hs' := hs.quiet (Quiet.drew w)
      refine ⟨hs'.mem, hs'.tsz, fun x v hx => hs'.tm x v ?_, hs'.def0⟩
      rw [← hx]
      have key : ∀ n, lk x (TDn L (fun i => vs.getD i (.tup [])) σ.t (dOf (Array.replicate L.length false)) n) = lk x σ.t := by
        intro n
        exact lk_TDn_skip _ x (i := 0) (Nat.zero_le _) (fun q _ _ hq => by rw [hdf] at hq; cases hq)
      exact (key p).symm)
  simpa using hq
end
end
end Go.Fw
