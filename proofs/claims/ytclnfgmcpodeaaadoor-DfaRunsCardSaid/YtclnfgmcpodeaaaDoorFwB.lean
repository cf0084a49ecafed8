/-
  An abstract machine over frozen values and owned objects, shown sound. Conditions: those that each theorem names.
-/
import Derived.Test.YtclnfgmcpodeaaaDoorFwA
import Derived.Orders
import Derived.LaidEqlPtr
import Derived.Laws.Pointers
import Derived.Laws.Externs
import Derived.Lib.Builder
import Derived.Lib.AppendStr
import Derived.Lib.UnsafeStr
import Derived.Lib.ConvBytes
import Derived.DeepKeys
import Derived.RangeFuncIn
import Derived.RangeFuncRecord
import Derived.RangeFuncLeaves
import Derived.Maps.Keyed
set_option linter.unusedVariables false
namespace Go.Fw
open Go

/-- operations that leave the world as it is (0), that make something frozen at once (1), calls (2), others (3) -/
def qk : Op → Nat
  | .move _ => 0
  | .assign _ => 0
  | .pick .. => 0
  | .binOp .. => 0
  | .unOp .. => 0
  | .load .. => 0
  | .fieldAddr .. => 0
  | .field .. => 0
  | .indexAddr .. => 0
  | .index .. => 0
  | .extract .. => 0
  | .nilCheck _ => 0
  | .build .. => 0
  | .makeFunc .. => 0
  | .slice .. => 0
  | .buildSlice .. => 1
  | .convert .. => 1
  | .call c => match c.callee with
    | .builtin .len => 0
    | .value _ => 2
    | _ => 3
  | _ => 3

theorem same_sound {P : Program} {E : Ent} {N : Nat} {σ σ' : St} {ι : Nat → Loc} {S : Nat → Prop} {a : Act} {w : World} {v : AV} {need : Prop} (hs : Sim E N σ ι S a w) {o : Oper} (hq : qk o.op = 0) (h : aop (tk P) σ o.op = .val need v σ') (hn : need) : GoodS P σ ι S w (execOp a.eval o) v σ' := by
  cases ho : o.op <;> rw [ho] at h hq <;> simp only [aop, reduceCtorEq] at h <;> first | (exfalso; revert hq; simp [qk]; done) | skip
  case move x => obtain ⟨rfl, hv⟩ := s_move hs h hn; exact .same hs (by simp [execOp, ho]) hv
  case assign x => obtain ⟨rfl, hv⟩ := s_move hs h hn; exact .same hs (by simp [execOp, ho]) hv
  case pick => exact s_pick hs ho h hn
  case build => exact s_build hs ho h hn
  case load => exact s_load hs ho h hn
  case nilCheck => exact s_nil hs ho h hn
  case binOp => exact s_bin hs ho h hn
  case unOp op T x =>
    cases op <;> simp only [reduceCtorEq] at h
    all_goals first | exact s_not hs ho h hn | exact s_neg hs ho h hn | exact s_xor hs ho h hn
  case makeFunc => exact s_mkFunc hs ho h hn
  case slice T x lo hi mx =>
    cases mx <;> simp only [reduceCtorEq] at h
    exact s_slice hs ho h hn
  case fieldAddr => exact s_fieldAddr hs ho h hn
  case field => exact s_field hs ho h hn
  case indexAddr => exact s_indexAddr hs ho h hn
  case index => exact s_index hs ho h hn
  case extract => exact s_extract hs ho h hn
  case call c =>
    split at h
    · rename_i hc
      split at h
      · rename_i x t hx ht
        have e1 : c.args = #[x] := by rw [← Array.toArray_toList (xs := c.args), hx]
        have e2 : c.argTypes = #[t] := by rw [← Array.toArray_toList (xs := c.argTypes), ht]
        refine s_len hs (U := o.type) ?_ h hn
        simp [execOp, ho, resolve, hc, e1, e2, invoke, builtin]
      · cases h
    · rename_i hc
      simp [qk, hc] at hq
    · unfold aCallV at h
      split at h <;> cases h
    · cases h

def pickT (t : List (Nat × AV)) : List Nat → List (Nat × AV)
  | [] => []
  | x :: xs => match lk x t with
    | some v => (x, v) :: pickT t xs
    | none => pickT t xs
def putT (t : List (Nat × AV)) (d : Option Nat) (v : AV) : List (Nat × AV) := match d with | some d => (d, v) :: t | none => t

/-- an operation does its own, from wherever it is ready -/
def StepOK (C : Cx) (L : List Oper) (k : List Item) (h : Heap) (m : Nat) (o : Oper) (t : List (Nat × AV)) (v : AV) : Prop :=
  ∀ u ι S a w, Sim C.E C.N ⟨u, h, m⟩ ι S a w → (∀ x ∈ o.looksAt L.toArray, ∀ z, lk x t = some z → lk x u = some z) → (∀ d, o.dst = some d → d < C.N) →
    ∀ next : Act → World → Prop, (∀ ι' S' a' w', Sim C.E C.N ⟨putT u o.dst v, h, m⟩ ι' S' a' w' → next a' w') →
      (Region.wanted o (yielded L.toArray a.tmps) = true → o.wp C.P a w next (QN C k)) ∧ (Region.wanted o (yielded L.toArray a.tmps) = false → next (a.put o.dst undef) w)
section
variable (C : Cx) (L : List Oper) (fuel : Nat) (tail : List Oper) (k : List Item) (h : Heap) (m : Nat)
mutual
def VQc : Nat → List Oper → Oper → List (Nat × AV) → Bool → Res → Prop
  | n, os, o, t, c, .val need v _ => (c = true → need) ∧ VQ n os (putT t o.dst (mkg c v))
  | n, os, o, t, c, .call need f args => VQp n os o t c need f args
  | n, os, o, t, c, .bad => VQs n os o t c
def VQs : Nat → List Oper → Oper → List (Nat × AV) → Bool → Prop
  | n, os, o, t, c => ∃ v, StepOK C L k h m o t (mkg c v) ∧ VQ n os (putT t o.dst (mkg c v))
def VQp : Nat → List Oper → Oper → List (Nat × AV) → Bool → Prop → FuncId → List AV → Prop
  | n, os, o, t, c, need, f, args => ∃ as r, (c = true → need ∧ enters C.P f = true ∧ AV.fzs args = some as ∧ PC C.P f as (· = r)) ∧ VQ n os (putT t o.dst (mkg c (.f r)))
def VQz : Nat → List Oper → Oper → List (Nat × AV) → Bool → Prop → Option (Prop × FV × St) → Prop
  | n, os, o, t, c, need, some (d, y, _) => (c = true → need ∧ d) ∧ VQ n os (putT t o.dst (mkg c (.f y)))
  | _, _, _, _, _, _, none => False
def VQf : Nat → List Oper → Oper → List (Nat × AV) → Bool → Res → Prop
  | n, os, o, t, c, .val need v σ' => VQz n os o t c need (release σ' v)
  | n, os, o, t, c, _ => VQs n os o t c
def VQk : Nat → List Oper → Oper → List (Nat × AV) → Bool → Nat → Prop
  | n, os, o, t, c, 0 => VQc n os o t c (aop (tk C.P) ⟨pickT t (o.looksAt L.toArray), h, m⟩ o.op)
  | n, os, o, t, c, 1 => VQf n os o t c (aop (tk C.P) ⟨pickT t (o.looksAt L.toArray), [], m⟩ o.op)
  | n, os, o, t, c, 2 => VQc n os o t c (aop (tk C.P) ⟨pickT t (o.looksAt L.toArray), h, m⟩ o.op)
  | n, os, o, t, c, _ => VQs n os o t c
def VQg : Nat → List Oper → Oper → List (Nat × AV) → Option Bool → Prop
  | n, os, o, t, some c => VQk n os o t c (qk o.op)
  | _, _, _, _, none => False
def VQ : Nat → List Oper → List (Nat × AV) → Prop
  | _, [], t => AWn C fuel L tail k ⟨t, h, m⟩
  | n + 1, o :: os, t => VQg n os o t (guardOf L ⟨pickT t (o.looksAt L.toArray), h, m⟩ o.guard)
  | 0, _ :: _, _ => False
end
end

theorem lk_pickT (t : List (Nat × AV)) : ∀ (xs : List Nat) (x : Nat) {v : AV}, lk x (pickT t xs) = some v → x ∈ xs ∧ lk x t = some v
  | [], x, v, h => by simp [pickT, lk] at h
  | y :: ys, x, v, h => by
    simp only [pickT] at h
    split at h
    · rename_i u hu
      rw [lk_cons] at h
      split at h
      · rename_i e; subst e
        exact ⟨by simp, hu.trans h⟩
      · obtain ⟨h1, h2⟩ := lk_pickT t ys x h
        exact ⟨by simp [h1], h2⟩
    · obtain ⟨h1, h2⟩ := lk_pickT t ys x h
      exact ⟨by simp [h1], h2⟩

def Chain (C : Cx) (L : List Oper) (k : List Item) (h : Heap) (m : Nat) : List Oper → List (Nat × AV) → List AV → List (Nat × AV) → Prop
  | [], t, vs, t' => vs = [] ∧ t' = t
  | o :: os, t, vs, t' => ∃ v vs', vs = v :: vs' ∧ StepOK C L k h m o t v ∧ Chain C L k h m os (putT t o.dst v) vs' t'

section
variable {C : Cx} {L : List Oper} {fuel : Nat} {tail : List Oper} {k : List Item} {h : Heap} {m : Nat}

theorem put_putT (t : List (Nat × AV)) (d : Option Nat) (v : AV) : St.put ⟨t, h, m⟩ d v = ⟨putT t d v, h, m⟩ := by cases d <;> rfl

theorem sim_pick {E : Ent} {N : Nat} {u t : List (Nat × AV)} {ι : Nat → Loc} {S : Nat → Prop} {a : Act} {w : World} (hs : Sim E N ⟨u, h, m⟩ ι S a w) {xs : List Nat} (hl : ∀ x ∈ xs, ∀ z, lk x t = some z → lk x u = some z) : Sim E N ⟨pickT t xs, h, m⟩ ι S a w :=
  ⟨hs.mem, hs.tsz, fun x v hx => by
    obtain ⟨h1, h2⟩ := lk_pickT t xs x hx
    exact hs.tm x v (hl x h1 v h2), hs.def0⟩

theorem step_val {o : Oper} {t : List (Nat × AV)} {c : Bool} {need : Prop} {v : AV} {σ' : St} (hq : qk o.op = 0) (hg : guardOf L ⟨pickT t (o.looksAt L.toArray), h, m⟩ o.guard = some c)
    (hr : aop (tk C.P) ⟨pickT t (o.looksAt L.toArray), h, m⟩ o.op = .val need v σ') (hn : c = true → need) : StepOK C L k h m o t (mkg c v) := by
  intro u ι S a w hs hl hd next hnext
  have hp := sim_pick hs hl
  have hw := guard_sound (C := C) hp hg
  rw [hw]
  constructor
  · rintro rfl
    obtain ⟨rfl, y, hrun, hv⟩ := same_sound hp hq hr (hn rfl)
    unfold Oper.wp
    rw [hrun, Oper.upon_value]
    refine hnext ι S _ w ?_
    rw [← put_putT]
    exact hs.put hd hv
  · rintro rfl
    refine hnext ι S _ w ?_
    rw [← put_putT]
    exact put_false hs hd v

theorem step_call {o : Oper} {t : List (Nat × AV)} {c : Bool} {need : Prop} {f : FuncId} {args : List AV} {as : List FV} {r : FV} (hg : guardOf L ⟨pickT t (o.looksAt L.toArray), h, m⟩ o.guard = some c)
    (hr : aop (tk C.P) ⟨pickT t (o.looksAt L.toArray), h, m⟩ o.op = .call need f args) (hn : c = true → need ∧ enters C.P f = true ∧ AV.fzs args = some as ∧ PC C.P f as (· = r)) : StepOK C L k h m o t (mkg c (.f r)) := by
  intro u ι S a w hs hl hd next hnext
  have hp := sim_pick hs hl
  have hw := guard_sound (C := C) hp hg
  rw [hw]
  constructor
  · rintro rfl
    obtain ⟨hnn, hen, hfz, hpc⟩ := hn rfl
    obtain ⟨cl, x, ho, hcal, hcall⟩ := call_val hr
    obtain ⟨vals, hrun, hv⟩ := s_call hp ho hcal hcall hnn hen
    refine wp_pure (w0 := w) hrun hpc hs (fzs_sound _ hfz hv) hd ?_
    rintro r' S' a' w' rfl hs'
    refine hnext ι S' a' w' ?_
    rw [put_putT] at hs'
    exact hs'
  · rintro rfl
    refine hnext ι S _ w ?_
    rw [← put_putT]
    exact put_false hs hd _

theorem step_frz {o : Oper} {t : List (Nat × AV)} {c : Bool} {need d : Prop} {v : AV} {σ' σ'' : St} {y : FV} (hg : guardOf L ⟨pickT t (o.looksAt L.toArray), h, m⟩ o.guard = some c)
    (hr : aop (tk C.P) ⟨pickT t (o.looksAt L.toArray), [], m⟩ o.op = .val need v σ') (hrel : release σ' v = some (d, y, σ'')) (hn : c = true → need ∧ d) : StepOK C L k h m o t (mkg c (.f y)) := by
  intro u ι S a w hs hl hd next hnext
  have hp := sim_pick hs hl
  have hw := guard_sound (C := C) hp hg
  rw [hw]
  constructor
  · rintro rfl
    obtain ⟨hnn, hdd⟩ := hn rfl
    let E' : Ent := ⟨w, ι, m, fun _ => False, S, C.E.defs⟩
    have hm0 : Mem E' [] m ι S w :=
      { obj := fun id o h => by simp [lk] at h
        own := fun id o b h => by simp [lk] at h
        inj := fun id id' o o' b h => by simp [lk] at h
        slt := hs.mem.slt
        ssub := fun b h => .inl h
        ssup := fun b h => h
        keep := fun b hb _ => rfl
        size := Nat.le_refl _
        os := rfl
        tape := rfl
        output := rfl
        names := Nat.le_refl _
        same := fun _ _ => rfl }
    have hs0 : Sim E' C.N ⟨pickT t (o.looksAt L.toArray), [], m⟩ ι S a w := ⟨hm0, hp.tsz, hp.tm, hp.def0⟩
    obtain ⟨z, w', ι', S1, hrun, hs1, hv1⟩ := aop_sound hs0 hr hnn
    obtain ⟨S2, hS12, hs2, hf2, _, _⟩ := release_sound v hs1 hrel hdd hv1
    have hq : Quiet w w' := ⟨fun b hb => hs2.mem.keep b hb (fun h => h), hs2.mem.size, hs2.mem.os, hs2.mem.tape, hs2.mem.output⟩
    have hSS : ∀ b, S b → S2 b := fun b hb => hs2.mem.ssup b hb
    have hs' : Sim C.E C.N ⟨u, h, m⟩ ι S2 a w' := (hs.quiet hq).more hSS (fun b hb => by
      rcases hs2.mem.ssub b hb with h' | h' | h'
      · exact .inl h'
      · exact h'.elim
      · exact .inr ⟨hs2.mem.slt b hb, .inr (Nat.le_trans hs.mem.size h'), fun id o hl hb' => absurd (hs.mem.own id o b hl hb').1 (Nat.not_lt.2 h')⟩)
    have fin := hs'.put hd (v := .f y) (y := z) (by simpa only [VR] using hf2)
    rw [put_putT] at fin
    unfold Oper.wp
    rcases hrun with hrun | ⟨hrun, rfl⟩
    · rw [hrun, Oper.upon_value]
      exact hnext ι S2 _ w' fin
    · rw [hrun, Oper.upon_skip]
      exact hnext ι S2 _ w' fin
  · rintro rfl
    refine hnext ι S _ w ?_
    rw [← put_putT]
    exact put_false hs hd _

theorem VQ_chain : ∀ (os : List Oper) (n : Nat) (t : List (Nat × AV)), VQ C L fuel tail k h m n os t → ∃ vs t', Chain C L k h m os t vs t' ∧ AWn C fuel L tail k ⟨t', h, m⟩
  | [], n, t, hv => by
    cases n <;> simp only [VQ] at hv <;> exact ⟨[], t, ⟨rfl, rfl⟩, hv⟩
  | o :: os, 0, t, hv => by simp only [VQ] at hv
  | o :: os, n + 1, t, hv => by
    simp only [VQ] at hv
    cases hg : guardOf L ⟨pickT t (o.looksAt L.toArray), h, m⟩ o.guard with
    | none => rw [hg] at hv; simp only [VQg] at hv
    | some c =>
      rw [hg] at hv
      simp only [VQg] at hv
      have fin : ∀ v, StepOK C L k h m o t v → VQ C L fuel tail k h m n os (putT t o.dst v) → ∃ vs t', Chain C L k h m (o :: os) t vs t' ∧ AWn C fuel L tail k ⟨t', h, m⟩ := by
        intro v hst hvq
        obtain ⟨vs, t', hc, ha⟩ := VQ_chain os n _ hvq
        exact ⟨v :: vs, t', ⟨v, vs, rfl, hst, hc⟩, ha⟩
      have own : VQs C L fuel tail k h m n os o t c → ∃ vs t', Chain C L k h m (o :: os) t vs t' ∧ AWn C fuel L tail k ⟨t', h, m⟩ := by
        intro hs
        simp only [VQs] at hs
        obtain ⟨v, h1, h2⟩ := hs
        exact fin _ h1 h2
      match hq : qk o.op, hv with
      | 0, hv =>
        simp only [VQk] at hv
        cases hr : aop (tk C.P) ⟨pickT t (o.looksAt L.toArray), h, m⟩ o.op with
        | val need v σ' =>
          rw [hr] at hv
          simp only [VQc] at hv
          exact fin _ (step_val hq hg hr hv.1) hv.2
        | call need f args =>
          rw [hr] at hv
          simp only [VQc, VQp] at hv
          obtain ⟨as, r, h1, h2⟩ := hv
          exact fin _ (step_call hg hr h1) h2
        | bad => rw [hr] at hv; simp only [VQc] at hv; exact own hv
      | 1, hv =>
        simp only [VQk] at hv
        cases hr : aop (tk C.P) ⟨pickT t (o.looksAt L.toArray), [], m⟩ o.op with
        | val need v σ' =>
          rw [hr] at hv
          simp only [VQf] at hv
          cases hrel : release σ' v with
          | none => rw [hrel] at hv; simp only [VQz] at hv
          | some q =>
            obtain ⟨d, y, σ''⟩ := q
            rw [hrel] at hv
            simp only [VQz] at hv
            exact fin _ (step_frz hg hr hrel hv.1) hv.2
        | call need f args => rw [hr] at hv; simp only [VQf] at hv; exact own hv
        | bad => rw [hr] at hv; simp only [VQf] at hv; exact own hv
      | 2, hv =>
        simp only [VQk] at hv
        cases hr : aop (tk C.P) ⟨pickT t (o.looksAt L.toArray), h, m⟩ o.op with
        | val need v σ' =>
          exfalso
          cases ho : o.op with
          | call cl =>
            rw [ho] at hr hq
            simp only [aop, qk] at hr hq
            split at hr
            · rename_i hc; simp [hc] at hq
            · rename_i hc; simp [hc] at hq
            · unfold aCallV at hr; split at hr <;> cases hr
            · cases hr
          | _ => rw [ho] at hq; simp [qk] at hq
        | call need f args =>
          rw [hr] at hv
          simp only [VQc, VQp] at hv
          obtain ⟨as, r, h1, h2⟩ := hv
          exact fin _ (step_call hg hr h1) h2
        | bad => rw [hr] at hv; simp only [VQc] at hv; exact own hv
      | n + 3, hv => simp only [VQk] at hv; exact own hv

/- orders -/
def predsOf (L : List Oper) (i : Nat) : List Nat := match L[i]? with
  | some o => (o.after.toList.filter (Region.binds .any)).map (·.on)
  | none => []
def addNew (S : List Nat) (x : Nat) : List Nat := bif S.contains x then S else x :: S
def addAll : List Nat → List Nat → List Nat
  | S, [] => S
  | S, x :: xs => addAll (addNew S x) xs
def grow (L : List Oper) : Nat → List Nat → List Nat
  | 0, S => S
  | n + 1, S => grow L n (addAll S (S.flatMap (predsOf L)))
def reach (L : List Oper) (n i q : Nat) : Bool := (grow L n (predsOf L i)).contains q
def writes (o : Oper) (x : Nat) : Bool := o.dst == some x
def clash (L : List Oper) (a b : Oper) : Bool :=
  (match a.dst with | some d => (b.looksAt L.toArray).contains d || b.dst == some d | none => false) || (match b.dst with | some d => (a.looksAt L.toArray).contains d | none => false)
def pairOK (L : List Oper) (j i : Nat) : Bool := match L[j]?, L[i]? with
  | some a, some b => !clash L a b || (predsOf L i).contains j
  | _, _ => true
def drawOK (p : Nat) (L : List Oper) : Bool :=
  (List.range L.length).all fun i => (predsOf L i).all (fun j => decide (j < i)) && (!decide (i < p) || (List.range i).all fun j => pairOK L j i) && (decide (i < p) || (List.range i).all fun q => reach L 9 i q)

structure DrawOK (p : Nat) (L : List Oper) : Prop where
  down : ∀ i j, i < L.length → j ∈ predsOf L i → j < i
  pair : ∀ i j, i < L.length → i < p → j < i → pairOK L j i = true
  tail : ∀ i q, i < L.length → p ≤ i → q < i → reach L 9 i q = true
theorem drawOK_spec {p : Nat} {L : List Oper} (h : drawOK p L = true) : DrawOK p L := by
  simp only [drawOK, List.all_eq_true, List.mem_range, Bool.and_eq_true, Bool.or_eq_true, Bool.not_eq_true', decide_eq_true_eq, decide_eq_false_iff_not] at h
  refine ⟨fun i j hi hj => (h i hi).1.1 j hj, fun i j hi hp hj => ?_, fun i q hi hp hq => ?_⟩
  · rcases (h i hi).1.2 with h' | h'
    · exact absurd hp h'
    · exact h' j hj
  · rcases (h i hi).2 with h' | h'
    · omega
    · exact h' q hq

def putO (t : List (Nat × AV)) : Option Oper → AV → List (Nat × AV)
  | some o, v => putT t o.dst v
  | none, _ => t
/-- slots behind the operations done of the first ones -/
def TDn (L : List Oper) (V : Nat → AV) (t0 : List (Nat × AV)) (D : Nat → Bool) : Nat → List (Nat × AV)
  | 0 => t0
  | i + 1 => match D i with
    | true => putO (TDn L V t0 D i) L[i]? (V i)
    | false => TDn L V t0 D i
def dstAt (L : List Oper) (i : Nat) : Option Nat := (L[i]?).bind (·.dst)

section
variable {L : List Oper} {V : Nat → AV} {t0 : List (Nat × AV)}
theorem lk_TDn_succ (D : Nat → Bool) (i x : Nat) : lk x (TDn L V t0 D (i + 1)) = if D i = true ∧ dstAt L i = some x then some (V i) else lk x (TDn L V t0 D i) := by
  simp only [TDn, dstAt]
  cases hD : D i with
  | false => simp
  | true =>
   show lk x (putO (TDn L V t0 D i) L[i]? (V i)) = _
   obtain ⟨lo, hL⟩ : ∃ lo, L[i]? = lo := ⟨_, rfl⟩
   cases lo with
   | none => simp [hL, putO]
   | some o =>
    simp only [hL, putO]
    cases hd : o.dst with
    | none => simp [putT, hd]
    | some d =>
      simp only [putT, lk_cons, Option.bind_some, hd, Option.some.injEq]
      by_cases e : x = d
      · subst e; simp
      · have e' : ¬ d = x := fun h => e h.symm
        simp [e, e']
theorem lk_TDn_skip (D : Nat → Bool) (x : Nat) {i : Nat} : ∀ {j : Nat}, i ≤ j → (∀ q, i ≤ q → q < j → D q = true → dstAt L q ≠ some x) → lk x (TDn L V t0 D j) = lk x (TDn L V t0 D i) := by
  intro j
  induction j with
  | zero => intro h _; have : i = 0 := by omega
            subst this; rfl
  | succ j ih =>
    intro h hq
    by_cases e : i = j + 1
    · subst e; rfl
    · rw [lk_TDn_succ, if_neg (fun h' => hq j (by omega) (by omega) h'.1 h'.2)]
      exact ih (by omega) fun q h1 h2 => hq q h1 (by omega)
theorem lk_TDn_congr {D D' : Nat → Bool} (x : Nat) : ∀ {i : Nat}, (∀ q, q < i → dstAt L q = some x → D q = D' q) → lk x (TDn L V t0 D i) = lk x (TDn L V t0 D' i) := by
  intro i
  induction i with
  | zero => intro _; rfl
  | succ i ih =>
    intro h
    rw [lk_TDn_succ, lk_TDn_succ, ih fun q hq => h q (by omega)]
    by_cases e : dstAt L i = some x
    · rw [h i (by omega) e]
    · simp [e]
end

theorem chain_get {C : Cx} {L : List Oper} {k : List Item} {h : Heap} {m : Nat} : ∀ {os : List Oper} {t : List (Nat × AV)} {vs : List AV} {t' : List (Nat × AV)}, Chain C L k h m os t vs t' →
    t' = TDn os (fun i => vs.getD i (.tup [])) t (fun _ => true) os.length ∧ ∀ i o, os[i]? = some o → StepOK C L k h m o (TDn os (fun i => vs.getD i (.tup [])) t (fun _ => true) i) (vs.getD i (.tup []))
  | [], t, vs, t', hc => by obtain ⟨rfl, rfl⟩ := hc; exact ⟨rfl, fun i o h => by simp at h⟩
  | o :: os, t, vs, t', hc => by
    obtain ⟨v, vs', rfl, hst, hc⟩ := hc
    obtain ⟨h1, h2⟩ := chain_get hc
    have key : ∀ i, TDn (o :: os) (fun i => (v :: vs').getD i (.tup [])) t (fun _ => true) (i + 1) = TDn os (fun i => vs'.getD i (.tup [])) (putT t o.dst v) (fun _ => true) i := by
      intro i
      induction i with
      | zero => simp [TDn, putO]
      | succ i ih =>
        rw [TDn, ih]
        simp only [TDn, List.getElem?_cons_succ, List.getD_cons_succ]
    refine ⟨by rw [h1, List.length_cons, key], ?_⟩
    intro i o' ho
    cases i with
    | zero =>
      simp only [List.getElem?_cons_zero, Option.some.injEq] at ho
      subst ho
      exact hst
    | succ i =>
      rw [key]
      simp only [List.getElem?_cons_succ] at ho
      exact h2 i o' ho

def cnt (D : Nat → Bool) : Nat → Nat
  | 0 => 0
  | i + 1 => cnt D i + (if D i = true then 1 else 0)
theorem cnt_le (D : Nat → Bool) : ∀ n, cnt D n ≤ n
  | 0 => Nat.le_refl _
  | n + 1 => by simp only [cnt]; have := cnt_le D n; split <;> omega
theorem cnt_full {D : Nat → Bool} : ∀ {n : Nat}, cnt D n = n → ∀ i, i < n → D i = true
  | n + 1, h, i, hi => by
    simp only [cnt] at h
    have := cnt_le D n
    split at h
    · by_cases e : i = n
      · subst e; assumption
      · exact cnt_full (n := n) (by omega) i (by omega)
    · omega
theorem cnt_congr {D D' : Nat → Bool} : ∀ {n : Nat}, (∀ i, i < n → D i = D' i) → cnt D n = cnt D' n
  | 0, _ => rfl
  | n + 1, h => by simp only [cnt]; rw [h n (by omega), cnt_congr fun i hi => h i (by omega)]
theorem cnt_set {D D' : Nat → Bool} {q : Nat} : ∀ {n : Nat}, q < n → D q = false → D' q = true → (∀ i, i ≠ q → D' i = D i) → cnt D' n = cnt D n + 1
  | n + 1, hq, h1, h2, h3 => by
    simp only [cnt]
    by_cases e : q = n
    · subst e
      rw [h1, h2, cnt_congr fun i hi => h3 i (by omega)]
      simp
    · rw [h3 n (by omega), cnt_set (by omega) h1 h2 h3]
      omega

def dOf (listed : Array Bool) (i : Nat) : Bool := listed.getD i false
theorem ready_mem {L : List Oper} {listed : Array Bool} (hsz : listed.size = L.length) {i : Nat} : i ∈ Region.ready .any L.toArray listed ↔ i < L.length ∧ dOf listed i = false ∧ ∀ j ∈ predsOf L i, dOf listed j = true := by
  simp only [Region.ready, List.mem_filter, List.mem_range, List.size_toArray, Bool.and_eq_true, Bool.not_eq_true']
  constructor
  · rintro ⟨hi, h1, h2⟩
    have hlt : i < listed.size := by omega
    refine ⟨hi, ?_, ?_⟩
    · simpa [dOf, Array.getD, hlt] using h1
    · simp only [List.getElem?_toArray] at h2
      intro j hj
      unfold predsOf at hj
      rw [List.getElem?_eq_getElem hi] at h2 hj
      simp only [Option.map_some, Option.getD_some, Array.all_eq_true', Bool.or_eq_true, Bool.not_eq_true'] at h2
      simp only [List.mem_map, List.mem_filter] at hj
      obtain ⟨e, ⟨he, hb⟩, rfl⟩ := hj
      rcases h2 e (Array.mem_toList_iff.1 he) with h | h
      · rw [h] at hb; cases hb
      · exact h
  · rintro ⟨hi, h1, h2⟩
    have hlt : i < listed.size := by omega
    refine ⟨hi, ?_, ?_⟩
    · simpa [dOf, Array.getD, hlt] using h1
    · simp only [List.getElem?_toArray, List.getElem?_eq_getElem hi, Option.map_some, Option.getD_some, Array.all_eq_true', Bool.or_eq_true, Bool.not_eq_true']
      intro e he
      cases hb : Region.binds .any e with
      | false => exact .inl rfl
      | true =>
        refine .inr (h2 e.on ?_)
        unfold predsOf
        rw [List.getElem?_eq_getElem hi]
        exact List.mem_map.2 ⟨e, List.mem_filter.2 ⟨Array.mem_toList_iff.2 he, hb⟩, rfl⟩

theorem mem_addAll : ∀ (xs S : List Nat) {x : Nat}, x ∈ addAll S xs → x ∈ S ∨ x ∈ xs
  | [], S, x, h => .inl h
  | y :: ys, S, x, h => by
    simp only [addAll] at h
    rcases mem_addAll ys _ h with h | h
    · unfold addNew at h
      cases hc : S.contains y <;> rw [hc] at h
      · simp only [cond_false, List.mem_cons] at h
        rcases h with rfl | h
        · exact .inr (by simp)
        · exact .inl h
      · exact .inl h
    · exact .inr (by simp [h])
theorem grow_sound {L : List Oper} {D : Nat → Bool} (hdown : ∀ i, D i = true → ∀ j ∈ predsOf L i, D j = true) : ∀ (n : Nat) (S : List Nat), (∀ x ∈ S, D x = true) → ∀ x ∈ grow L n S, D x = true
  | 0, S, hS, x, h => hS x h
  | n + 1, S, hS, x, h => by
    simp only [grow] at h
    refine grow_sound hdown n _ (fun y hy => ?_) x h
    rcases mem_addAll _ _ hy with h | h
    · exact hS y h
    · obtain ⟨z, hz, hy⟩ := List.mem_flatMap.1 h
      exact hdown z (hS z hz) y hy
theorem reach_sound {L : List Oper} {D : Nat → Bool} (hdown : ∀ i, D i = true → ∀ j ∈ predsOf L i, D j = true) (n i q : Nat) (hi : ∀ j ∈ predsOf L i, D j = true) (h : reach L n i q = true) : D q = true := by
  simp only [reach, List.contains_iff_mem] at h
  exact grow_sound hdown n _ hi q h

section
variable {C : Cx} {L : List Oper} {k : List Item} {h : Heap} {m : Nat} {p : Nat}

theorem dOf_set {listed : Array Bool} {q : Nat} (hq : q < listed.size) (i : Nat) : dOf (listed.setIfInBounds q true) i = if i = q then true else dOf listed i := by
  simp only [dOf, Array.getD_eq_getD_getElem?, Array.getElem?_setIfInBounds]
  by_cases e : i = q
  · subst e; simp [hq]
  · rw [if_neg (fun h => e h.symm), if_neg e]

/-- behind the quiet ones, the others come as they stand -/
theorem any_tail (ok : DrawOK p L) : ∀ (fuel : Nat) (listed : Array Bool) (q : Nat), listed.size = L.length → p ≤ q → q ≤ L.length → (∀ i, i < L.length → (dOf listed i = true ↔ i < q)) → fuel + q = L.length →
    ∀ a w, At C L (L.drop q) k a w → wpAnyIn C.F 0 C.P .any L.toArray (QN C k) fuel listed a w := by
  intro fuel
  induction fuel with
  | zero =>
    intro listed q hsz hp hq hD hf a w hA
    have : q = L.length := by omega
    subst this
    refine ⟨?_, ?_⟩
    · apply List.eq_nil_iff_forall_not_mem.2
      intro i hi
      obtain ⟨h1, h2, _⟩ := (ready_mem hsz).1 hi
      have := (hD i h1).2 h1
      rw [this] at h2; cases h2
    · rw [List.drop_length] at hA
      exact at_nil.1 hA
  | succ fuel ih =>
    intro listed q hsz hp hq hD hf a w hA
    have hqlt : q < L.length := by omega
    have hqD : dOf listed q = false := by
      cases hd : dOf listed q with
      | false => rfl
      | true => have := (hD q hqlt).1 hd; omega
    have hready : q ∈ Region.ready .any L.toArray listed := (ready_mem hsz).2 ⟨hqlt, hqD, fun j hj => by
      have := ok.down q j hqlt hj
      exact (hD j (by omega)).2 this⟩
    refine ⟨fun he => (by rw [he] at hready; cases hready), ?_⟩
    intro i hi
    obtain ⟨h1, h2, h3⟩ := (ready_mem hsz).1 hi
    have hqi : i = q := by
      have hge : q ≤ i := by
        rcases Nat.lt_or_ge i q with hlt | hge
        · have := (hD i h1).2 hlt; rw [this] at h2; cases h2
        · exact hge
      rcases Nat.eq_or_lt_of_le hge with e | hlt
      · exact e.symm
      · exfalso
        have hr := ok.tail i q h1 (by omega) hlt
        have := reach_sound (D := dOf listed) (fun i' hi' j hj => by
          have hi'' : i' < L.length := by
            rcases Nat.lt_or_ge i' L.length with h | h
            · exact h
            · have : dOf listed i' = false := by simp [dOf, Array.getD, show ¬ i' < listed.size by omega]
              rw [this] at hi'; cases hi'
          have h5 := (hD i' hi'').1 hi'
          have h6 := ok.down i' j hi'' hj
          exact (hD j (by omega)).2 (by omega)) 9 i q h3 hr
        rw [hqD] at this; cases this
    subst hqi
    have hlen : (L.drop i).length = L.length - i := by simp
    have hdrop : L.drop i = L[i] :: L.drop (i + 1) := by rw [List.drop_eq_getElem_cons hqlt]
    have hstep : At C L (L.drop i) k a w = wpOpIn C.F 0 C.P L.toArray (QN C k) i (fun a w => At C L (L.drop (i + 1)) k a w) a w := by
      unfold At
      have e1 : L.length - (L.drop i).length = i := by simp; omega
      have e2 : (L.drop i).length = (L.drop (i + 1)).length + 1 := by simp; omega
      have e3 : L.length - (L.drop (i + 1)).length = i + 1 := by simp; omega
      rw [e1, e2, List.range'_succ, wpOpsIn_cons, e3]
    rw [hstep] at hA
    refine wpOpIn_mono ?_ hA
    intro a' w' hA'
    refine ih _ (i + 1) (by simpa using hsz) (by omega) (by omega) ?_ (by omega) a' w' hA'
    intro i' hi'
    rw [dOf_set (by omega)]
    by_cases e : i' = i
    · subst e; simp
    · rw [if_neg e, hD i' hi']; omega

theorem any_quiet (ok : DrawOK p L) (hp : p ≤ L.length) (hokd : okOps C.N L = true) {V : Nat → AV} {t0 : List (Nat × AV)} (hstep : ∀ i o, i < p → L[i]? = some o → StepOK C L k h m o (TDn L V t0 (fun _ => true) i) (V i))
    (hend : ∀ ι S a w, Sim C.E C.N ⟨TDn L V t0 (fun _ => true) p, h, m⟩ ι S a w → At C L (L.drop p) k a w) : ∀ (fuel : Nat) (listed : Array Bool), listed.size = L.length → (∀ i, dOf listed i = true → ∀ j ∈ predsOf L i, dOf listed j = true) →
    (∀ i, dOf listed i = true → i < p) → fuel + cnt (dOf listed) L.length = L.length →
    ∀ ι S a w, Sim C.E C.N ⟨TDn L V t0 (dOf listed) p, h, m⟩ ι S a w → wpAnyIn C.F 0 C.P .any L.toArray (QN C k) fuel listed a w := by
  intro fuel
  induction fuel with
  | zero =>
    intro listed hsz hdown hlt hf ι S a w hs
    have hfull := cnt_full (n := L.length) (D := dOf listed) (by omega)
    have hpe : p = L.length := by
      rcases Nat.eq_or_lt_of_le hp with e | hl
      · exact e
      · have := hlt p (hfull p hl); omega
    refine any_tail ok 0 listed p hsz (Nat.le_refl _) hp (fun i hi => ⟨fun h => hlt i h, fun h => hfull i hi⟩) (by omega) a w (hend ι S a w ?_)
    refine ⟨hs.mem, hs.tsz, fun x v hx => hs.tm x v ?_, hs.def0⟩
    rw [← hx]
    exact lk_TDn_congr x fun q hq _ => hfull q (by omega)
  | succ fuel ih =>
    intro listed hsz hdown hlt hf ι S a w hs
    by_cases hall : ∀ i, i < p → dOf listed i = true
    · -- all quiet ones are done
      have hcnt : cnt (dOf listed) L.length = p := by
        have key : ∀ n, cnt (dOf listed) n = if n ≤ p then n else p := by
          intro n
          induction n with
          | zero => simp [cnt]
          | succ n ihn =>
            simp only [cnt, ihn]
            by_cases hn : n < p
            · rw [hall n hn]
              simp only [if_true]
              rw [if_pos (by omega), if_pos (by omega)]
            · have : ¬ dOf listed n = true := fun h => hn (hlt n h)
              rw [if_neg this]
              split <;> split <;> omega
        rw [key]; split <;> omega
      refine any_tail ok (fuel + 1) listed p hsz (Nat.le_refl _) hp (fun i hi => ⟨fun h => hlt i h, fun h => hall i h⟩) (by omega) a w (hend ι S a w ?_)
      refine ⟨hs.mem, hs.tsz, fun x v hx => hs.tm x v ?_, hs.def0⟩
      rw [← hx]
      exact lk_TDn_congr x fun q hq _ => hall q hq
    · have hnot : ∃ q, q < p ∧ dOf listed q = false := by
        apply Classical.byContradiction
        intro hne
        apply hall
        intro i hi
        cases hd : dOf listed i with
        | true => rfl
        | false => exact absurd ⟨i, hi, hd⟩ hne
      have hleast : ∃ q, q < p ∧ dOf listed q = false ∧ ∀ j, j < q → dOf listed j = true := by
        obtain ⟨q, hq⟩ := hnot
        induction q using Nat.strongRecOn with
        | _ q ihq =>
          by_cases he : ∀ j, j < q → dOf listed j = true
          · exact ⟨q, hq.1, hq.2, he⟩
          · have : ∃ j, j < q ∧ dOf listed j = false := by
              apply Classical.byContradiction
              intro hne
              apply he
              intro j hj
              cases hd : dOf listed j with
              | true => rfl
              | false => exact absurd ⟨j, hj, hd⟩ hne
            obtain ⟨j, hj, hd⟩ := this
            exact ihq j hj ⟨by omega, hd⟩
      obtain ⟨q, hqp, hqD, hqb⟩ := hleast
      have hready : q ∈ Region.ready .any L.toArray listed := (ready_mem hsz).2 ⟨by omega, hqD, fun j hj => hqb j (ok.down q j (by omega) hj)⟩
      refine ⟨fun he => (by rw [he] at hready; cases hready), ?_⟩
      intro i hi
      obtain ⟨h1, h2, h3⟩ := (ready_mem hsz).1 hi
      have hip : i < p := by
        rcases Nat.lt_or_ge i p with hl | hge
        · exact hl
        · exfalso
          have := reach_sound (D := dOf listed) hdown 9 i q h3 (ok.tail i q h1 hge (by omega))
          rw [hqD] at this; cases this
      have hLi : L[i]? = some L[i] := List.getElem?_eq_getElem h1
      have hst := hstep i L[i] hip hLi
      have hd : ∀ d, L[i].dst = some d → d < C.N := okOps_mem hokd (List.getElem_mem h1)
      have pairs : ∀ j, j < p → ∀ x, ((x ∈ (L[i]).looksAt L.toArray ∨ (L[i]).dst = some x) ∧ dstAt L j = some x) → (j < i → j ∈ predsOf L i) ∧ (i < j → i ∈ predsOf L j) := by
        intro j hj x ⟨hx, hdx⟩
        have hjl : j < L.length := by omega
        have hLj : L[j]? = some L[j] := List.getElem?_eq_getElem hjl
        have hdj : L[j].dst = some x := by simpa [dstAt, hLj] using hdx
        constructor
        · intro hji
          have := ok.pair i j h1 hip hji
          simp only [pairOK, hLj, hLi, clash, hdj, Bool.or_eq_true, Bool.not_eq_true', List.contains_iff_mem, Bool.or_eq_false_iff] at this
          rcases this with ⟨⟨h4, h5⟩, _⟩ | h
          · rcases hx with hx | hx
            · have := List.contains_iff_mem.2 hx; rw [h4] at this; cases this
            · rw [hx] at h5; simp at h5
          · exact h
        · intro hij
          have := ok.pair j i hjl hj hij
          simp only [pairOK, hLj, hLi, clash, hdj, Bool.or_eq_true, Bool.not_eq_true', List.contains_iff_mem, Bool.or_eq_false_iff] at this
          rcases this with ⟨h4, h5⟩ | h
          · rcases hx with hx | hx
            · have := List.contains_iff_mem.2 hx; rw [h5] at this; cases this
            · rw [hx] at h4; simp at h4
          · exact h
      have hla : ∀ x ∈ (L[i]).looksAt L.toArray, lk x (TDn L V t0 (dOf listed) p) = lk x (TDn L V t0 (fun _ => true) i) := by
        intro x hx
        rw [lk_TDn_skip (dOf listed) x (i := i) (j := p) (by omega)]
        · refine lk_TDn_congr x fun j hj hdx => ?_
          exact h3 j ((pairs j (by omega) x ⟨.inl hx, hdx⟩).1 hj)
        · intro j hj1 hj2 hDj hdx
          rcases Nat.eq_or_lt_of_le hj1 with e | hlt'
          · subst e; rw [h2] at hDj; cases hDj
          · have := hdown j hDj i ((pairs j hj2 x ⟨.inl hx, hdx⟩).2 hlt')
            rw [h2] at this; cases this
      have hlisted : i < listed.size := by omega
      have hnext : ∀ ι' S' a' w', Sim C.E C.N ⟨putT (TDn L V t0 (dOf listed) p) L[i].dst (V i), h, m⟩ ι' S' a' w' → wpAnyIn C.F 0 C.P .any L.toArray (QN C k) fuel (listed.setIfInBounds i true) a' w' := by
        intro ι' S' a' w' hs'
        refine ih _ (by simpa using hsz) ?_ ?_ ?_ ι' S' a' w' ⟨hs'.mem, hs'.tsz, fun x v hx => hs'.tm x v ?_, hs'.def0⟩
        · intro i' hi' j hj
          rw [dOf_set hlisted] at hi' ⊢
          by_cases e : i' = i
          · subst e
            split
            · rfl
            · exact h3 j hj
          · rw [if_neg e] at hi'
            split
            · rfl
            · exact hdown i' hi' j hj
        · intro i' hi'
          rw [dOf_set hlisted] at hi'
          split at hi'
          · rename_i e; omega
          · exact hlt i' hi'
        · rw [cnt_set (D := dOf listed) (q := i) h1 h2 (by rw [dOf_set hlisted, if_pos rfl]) (fun j hj => by rw [dOf_set hlisted, if_neg hj])]
          omega
        · rw [← hx]
          have hput : lk x (putT (TDn L V t0 (dOf listed) p) L[i].dst (V i)) = if L[i].dst = some x then some (V i) else lk x (TDn L V t0 (dOf listed) p) := by
            cases hdd : L[i].dst with
            | none => simp [putT]
            | some d =>
              simp only [putT, lk_cons, Option.some.injEq]
              by_cases e : x = d
              · subst e; simp
              · rw [if_neg e, if_neg (fun h => e h.symm)]
          rw [hput]
          by_cases hdx : L[i].dst = some x
          · rw [if_pos hdx]
            rw [lk_TDn_skip (dOf (listed.setIfInBounds i true)) x (i := i + 1) (j := p) (by omega)]
            · rw [lk_TDn_succ, if_pos ⟨by rw [dOf_set hlisted, if_pos rfl], by simp [dstAt, hLi, hdx]⟩]
            · intro j hj1 hj2 hDj hdj
              rw [dOf_set hlisted, if_neg (by omega)] at hDj
              have := hdown j hDj i ((pairs j hj2 x ⟨.inr hdx, hdj⟩).2 (by omega))
              rw [h2] at this; cases this
          · rw [if_neg hdx]
            refine lk_TDn_congr x fun j hj hdj => ?_
            rw [dOf_set hlisted, if_neg]
            intro e; subst e
            simp only [dstAt, hLi, Option.bind_some] at hdj
            exact hdx hdj
      have hres := hst _ ι S a w hs (fun x hx z hz => by rw [hla x hx]; exact hz) hd (wpAnyIn C.F 0 C.P .any L.toArray (QN C k) fuel (listed.setIfInBounds i true)) hnext
      unfold wpOpIn
      simp only [List.getElem?_toArray, hLi]
      cases hw : Region.wanted L[i] (yielded L.toArray a.tmps) with
      | true => simp only [if_true]; exact wp_in (okOps_nd hokd (List.getElem_mem h1)) (hres.1 hw)
      | false => simp only [if_false, Bool.false_eq_true]; exact ⟨fun f _ => C.F_fn f, hres.2 hw⟩

theorem TDn_take (L : List Oper) (p : Nat) (V : Nat → AV) (t0 : List (Nat × AV)) : ∀ i, i ≤ p → TDn (L.take p) V t0 (fun _ => true) i = TDn L V t0 (fun _ => true) i := by
  intro i
  induction i with
  | zero => intro _; rfl
  | succ i ih =>
    intro hi
    simp only [TDn]
    rw [ih (by omega), List.getElem?_take, if_pos (by omega)]

/-- a region whose first operations are quiet, and whose others follow them as they stand -/
theorem ADr.intro {id : Nat} {σ : St} (p fuel : Nat) (hok : drawOK p L = true) (hp : p ≤ L.length) (hv : VQ C L fuel (L.drop p) k σ.h σ.n p (L.take p) σ.t) : ADr C id L k σ := by
  intro okC hsuf hoks hki ι S a w hs
  rw [at_nil]
  have ok := drawOK_spec hok
  simp only [okItems, List.all_cons, Bool.and_eq_true, okItem, okCode] at hki
  obtain ⟨vs, t', hc, ha⟩ := VQ_chain _ _ _ hv
  obtain ⟨h1, h2⟩ := chain_get hc
  have hlen : (L.take p).length = p := by simp; omega
  rw [hlen, TDn_take _ _ _ _ p (Nat.le_refl _)] at h1
  refine goes_of_wpIn (wpIn_region_any okC.mixed ?_)
  have hsz : (Array.replicate L.length false).size = L.length := by simp
  have hdf : ∀ i, dOf (Array.replicate L.length false) i = false := by
    intro i
    simp only [dOf, Array.getD_eq_getD_getElem?]
    by_cases hi : i < L.length <;> simp [hi]
  have hq := any_quiet (C := C) (k := k) (h := σ.h) (m := σ.n) ok hp hki.1 (V := fun i => vs.getD i (.tup [])) (t0 := σ.t)
    (fun i o hi ho => by
      have := h2 i o (by rw [List.getElem?_take, if_pos hi]; exact ho)
      rwa [TDn_take _ _ _ _ i (by omega)] at this)
    (fun ι S a w hs => by
      rw [h1] at ha
      exact AWn_sound _ _ _ _ _ ha okC (List.drop_suffix _ _) hki.1 hki.2 ι S a w hs)
    L.length (Array.replicate L.length false) hsz (fun i hi => by rw [hdf] at hi; cases hi) (fun i hi => by rw [hdf] at hi; cases hi)
    (by
      have : cnt (dOf (Array.replicate L.length false)) L.length = 0 := by
        have key : ∀ n, cnt (dOf (Array.replicate L.length false)) n = 0 := by
          intro n
          induction n with
          | zero => rfl
          | succ n ih => simp [cnt, ih, hdf]
        exact key _
      omega) ι S a { w with drawn := w.drawn + 1 } (by
      have hs' := hs.quiet (Quiet.drew w)
      refine ⟨hs'.mem, hs'.tsz, fun x v hx => hs'.tm x v ?_, hs'.def0⟩
      rw [← hx]
      have key : ∀ n, lk x (TDn L (fun i => vs.getD i (.tup [])) σ.t (dOf (Array.replicate L.length false)) n) = lk x σ.t := by
        intro n
        exact lk_TDn_skip _ x (i := 0) (Nat.zero_le _) (fun q _ _ hq => by rw [hdf] at hq; cases hq)
      exact (key p).symm)
  simpa using hq
end
end
end Go.Fw

set_option linter.unusedVariables false
namespace Go.Fw
open Go

theorem BR_split (b : Bool) (x y : Prop) : BR b x y = ((b = true → x) ∧ (b = false → y)) := by cases b <;> simp [BR]

theorem mkg_false (v : AV) : mkg false v = .g v := rfl

def fixAll (τ : List (Nat × Nat)) : Nat → Prop
  | 0 => True
  | n + 1 => rn τ n = n ∧ fixAll τ n
theorem fixAll_spec {τ : List (Nat × Nat)} : ∀ {n : Nat}, fixAll τ n → ∀ i, i < n → rn τ i = i
  | n + 1, h, i, hi => by
    simp only [fixAll] at h
    by_cases e : i = n
    · subst e; exact h.1
    · exact fixAll_spec h.2 i (by omega)
def subAll (τ : List (Nat × Nat)) (n0 : Nat) (σ σ' : St) : Prop := fixAll τ n0 ∧ n0 ≤ σ'.n ∧ subT τ σ'.n σ.t σ'.t ∧ subH τ σ'.n σ.h σ'.h ∧ apartH τ σ'.h
theorem Imp.of {E : Ent} {n0 : Nat} {σ σ' : St} (τ : List (Nat × Nat)) (hE : E.n = n0) (h : subAll τ n0 σ σ') : Imp E σ σ' := by
  subst hE
  exact Imp.sub τ (fun i hi => fixAll_spec h.1 i hi) h.2.1 h.2.2.1 h.2.2.2.1 h.2.2.2.2

section
variable {C : Cx} {n : Nat} {all os : List Oper} {o : Oper} {k : List Item} {σ : St} {need : Prop} {f : FuncId} {args : List AV}
/-- a call whose guard does not hold -/
theorem ACall.no (v : AV) (hk : AWn C n all os k (σ.put o.dst (.g v))) : ACall C n all o os k σ false need f args := by
  intro hg hop ok hsuf hok hki ι S a w hs
  have hd := okOps_mem hok (hsuf.subset (List.mem_cons_self ..))
  have hsuf' : os <:+ all := (List.suffix_cons o os).trans hsuf
  refine at_step (σ := σ) ?_ ?_ hs hg hsuf hok
  · intro c' hc' hct
    rw [hg] at hc'; simp only [Option.some.injEq] at hc'
    rw [← hc'] at hct; cases hct
  · intro c' hc' hct
    exact AWn_sound _ _ _ _ _ hk ok hsuf' hok hki ι S _ w (put_false hs hd v)
end

theorem getD_int {k : IntKind} (l : List Int) (i : Nat) (d : Int) : (l.map fun n => AV.f (.v (.int k n))).getD i (.f (.v (.int k d))) = .f (.v (.int k (l.getD i d))) := by
  simp [List.getD]
theorem getD_fmap (l : List FV) (i : Nat) (d : FV) : (l.map AV.f).getD i (.f d) = .f (l.getD i d) := by
  simp [List.getD]
theorem dec_ascii (s : List UInt8) (pos : Nat) (h : pos < s.length) (ha : (s.getD pos 0).toNat < 128) : dec s pos = ((s.getD pos 0).toNat, 1) := by
  have hsz : pos < (⟨⟨s⟩⟩ : ByteArray).size := h
  have e : (⟨⟨s⟩⟩ : ByteArray)[pos]'hsz = s.getD pos 0 := by
    rw [List.getD, List.getElem?_eq_getElem h]; rfl
  have := decode_ascii ⟨⟨s⟩⟩ pos hsz (by rw [e]; exact ha)
  rw [dec, this, e]

def tmpsOf : List Operand → List Nat
  | [] => []
  | .tmp t :: l => t :: tmpsOf l
  | .const _ :: l => tmpsOf l
  | .global _ :: l => tmpsOf l
  | .func _ :: l => tmpsOf l
def guardT (L : List Oper) : Option (Nat × Bool) → List Nat
  | none => []
  | some (g, _) => match (L[g]?).bind (·.dst) with
    | some d => [d]
    | none => []
def lks (L : List Oper) (o : Oper) : List Nat := tmpsOf o.op.operands.toList ++ guardT L o.guard
theorem tmpsOf_eq : ∀ l : List Operand, l.filterMap (fun | .tmp t => some t | _ => none) = tmpsOf l
  | [] => rfl
  | .tmp t :: l => by simp [tmpsOf, tmpsOf_eq l]
  | .const _ :: l => by simp [tmpsOf, tmpsOf_eq l]
  | .global _ :: l => by simp [tmpsOf, tmpsOf_eq l]
  | .func _ :: l => by simp [tmpsOf, tmpsOf_eq l]
theorem looksAt_eq (L : List Oper) (o : Oper) : o.looksAt L.toArray = lks L o := by
  unfold Oper.looksAt lks
  congr 1
  · exact tmpsOf_eq _
  · cases hg : o.guard with
    | none => rfl
    | some p =>
      obtain ⟨g, b⟩ := p
      simp only [guardT, List.getElem?_toArray]
      cases (L[g]?).bind (·.dst) <;> rfl

/-- a region all of whose operations are quiet -/
theorem ADr.all {C : Cx} {L : List Oper} {k : List Item} {id : Nat} {σ : St} (fuel : Nat) (hok : drawOK L.length L = true) (hv : VQ C L fuel [] k σ.h σ.n L.length L σ.t) : ADr C id L k σ :=
  ADr.intro L.length fuel hok (Nat.le_refl _) (by rw [List.drop_length, List.take_length]; exact hv)
/-- a region, cut behind its quiet operations -/
theorem ADr.cut {C : Cx} {L L1 L2 : List Oper} {k : List Item} {id : Nat} {σ : St} (fuel : Nat) (hL : L = L1 ++ L2) (hok : drawOK L1.length L = true) (hv : VQ C L fuel L2 k σ.h σ.n L1.length L1 σ.t) : ADr C id L k σ :=
  ADr.intro L1.length fuel hok (by rw [hL]; simp) (by rw [hL] at hv ⊢; simpa using hv)

theorem RI.here {E : Ent} {Q : AV → St → Prop} {av : AV} {h : Heap} {n : Nat} (hq : Q av ⟨[], h, n⟩) : RI E Q av ⟨[], h, n⟩ := ⟨av, h, n, Imp.refl _ _, hq⟩
theorem RI.to {E : Ent} {Q : AV → St → Prop} {av : AV} {h : Heap} {n : Nat} (av1 : AV) (h1 : Heap) (n1 : Nat) (hi : Imp E ⟨[(0, av)], h, n⟩ ⟨[(0, av1)], h1, n1⟩) (hq : Q av1 ⟨[], h1, n1⟩) : RI E Q av ⟨[], h, n⟩ := ⟨av1, h1, n1, hi, hq⟩
theorem wrap_i64 {n : Int} (h1 : -9223372036854775808 ≤ n) (h2 : n < 9223372036854775808) : IntKind.i64.wrap n = n := by
  simp [IntKind.wrap, IntKind.bits, IntKind.signed]
  omega
theorem wrap_u8 {n : Int} (h1 : 0 ≤ n) (h2 : n < 256) : IntKind.u8.wrap n = n := by
  simp [IntKind.wrap, IntKind.bits, IntKind.signed]
  omega
theorem wrap_i32 {n : Int} (h1 : -2147483648 ≤ n) (h2 : n < 2147483648) : IntKind.i32.wrap n = n := by
  simp [IntKind.wrap, IntKind.bits, IntKind.signed]
  omega
theorem wrap_u64 {n : Int} (h1 : 0 ≤ n) (h2 : n < 18446744073709551616) : IntKind.u64.wrap n = n := by
  simp [IntKind.wrap, IntKind.bits, IntKind.signed]
  omega

theorem VQp.mk {C : Cx} {L : List Oper} {fuel : Nat} {tail : List Oper} {k : List Item} {h : Heap} {m n : Nat} {os : List Oper} {o : Oper} {t : List (Nat × AV)} {c : Bool} {need : Prop} {f : FuncId} {args : List AV} (as : List FV) (r : FV)
    (h1 : c = true → need ∧ enters C.P f = true ∧ AV.fzs args = some as ∧ PC C.P f as (· = r)) (h2 : VQ C L fuel tail k h m n os (putT t o.dst (mkg c (.f r)))) : VQp C L fuel tail k h m n os o t c need f args := by
  simp only [VQp]
  exact ⟨as, r, h1, h2⟩

/-- an operation that the machine of this text does not know, under no guard: what it comes to is shown by hand -/
theorem AW.op {C : Cx} {n : Nat} {all os : List Oper} {o : Oper} {k : List Item} {σ : St} (v : AV) (hgd : o.guard = none)
    (h : ∀ ι S a w, Sim C.E C.N σ ι S a w → Good C.P C.E C.N a w (execOp a.eval o) v σ) (hk : AWn C n all os k (σ.put o.dst v)) : AW C all (o :: os) k σ := by
  intro ok hsuf hok hki ι S a w hs
  have hd := okOps_mem hok (hsuf.subset (List.mem_cons_self ..))
  have hsuf' : os <:+ all := (List.suffix_cons o os).trans hsuf
  have hg : guardOf all σ o.guard = some true := by rw [hgd]; rfl
  refine at_step (σ := σ) ?_ ?_ hs hg hsuf hok
  · intro c' hc' _
    refine wp_of_good (h ι S a w hs) hd ?_
    intro ι' S' a' w' hs'
    exact AWn_sound _ _ _ _ _ hk ok hsuf' hok hki ι' S' a' w' hs'
  · intro c' hc' hct
    rw [hg] at hc'; simp only [Option.some.injEq] at hc'
    rw [← hc'] at hct; cases hct
end Go.Fw

set_option linter.unusedVariables false
set_option linter.unusedSimpArgs false
namespace Go.Fw
open Go
section
variable {C : Cx} {n : Nat} {all os : List Oper} {o : Oper} {k : List Item} {σ : St}

theorem good_bin {E : Ent} {N : Nat} {σ : St} {ι : Nat → Loc} {S : Nat → Prop} {a : Act} {w : World} {P : Program} {o : Oper} {op : BinOp} {T U : TypeId} {x y : Operand} {p q : Value} {r : Bool} (hs : Sim E N σ ι S a w) (ho : o.op = .binOp op T x y U)
    (e1 : a.eval x = p) (e2 : a.eval y = q) (hg : (eqGuard op T x y p q).run P w = .ok () w) (hr : (binOp op T p q).run P w = .ok (.bool r) w) : Good P E N a w (execOp a.eval o) (.s (.bool r)) σ :=
  .same hs (y := .bool r) (by simp [execOp, ho, e1, e2, hg, hr]) (mk_v rfl)

/-- a pointer to an object is not nil -/
theorem AW.eqNil {T U : TypeId} {x : Operand} {id off : Nat} (hgd : o.guard = none) (ho : o.op = .binOp .eql T x (.const (.pointer none)) U) (hx : ev σ x = some (true, .ptr id off))
    (hT : C.P.underlying T = some (.pointer (C.P.pointee T))) (hk : AWn C n all os k (σ.put o.dst (.s (.bool false)))) : AW C all (o :: os) k σ := by
  refine AW.op _ hgd (fun ι S a w hs => ?_) hk
  have e1 := ev_sound hs hx rfl
  simp only [VR] at e1
  obtain ⟨_, b, hb, e1⟩ := e1
  exact good_bin hs ho e1 rfl (by simp [eqGuard, Act.eval]) (by simpa [Act.eval] using run_eql_pointer_nil w T (some ⟨b, off, none⟩) hT)
/-- nil is nil -/
theorem AW.nilNil {T U : TypeId} {x : Operand} (hgd : o.guard = none) (ho : o.op = .binOp .eql T x (.const (.pointer none)) U) (hx : ev σ x = some (true, .f (.v (.pointer none))))
    (hT : C.P.underlying T = some (.pointer (C.P.pointee T))) (hk : AWn C n all os k (σ.put o.dst (.s (.bool true)))) : AW C all (o :: os) k σ := by
  refine AW.op _ hgd (fun ι S a w hs => ?_) hk
  have e1 := vr_v (ev_sound hs hx rfl)
  exact good_bin hs ho e1 rfl (by simp [eqGuard, Act.eval]) (by simpa [Act.eval] using run_eql_pointer_nil w T none hT)
/-- a pointer differs not from itself -/
theorem AW.neSelf {T U te : TypeId} {x y : Operand} {id off : Nat} {kk : TK} (hgd : o.guard = none) (ho : o.op = .binOp .neq T x y U) (hx : ev σ x = some (true, .ptr id off)) (hy : ev σ y = some (true, .ptr id off))
    (hT : C.P.underlying T = some (.pointer te)) (hkk : tk C.P te = some kk) (hk : AWn C n all os k (σ.put o.dst (.s (.bool false)))) : AW C all (o :: os) k σ := by
  refine AW.op _ hgd (fun ι S a w hs => ?_) hk
  have e1 := ev_sound hs hx rfl
  have e2 := ev_sound hs hy rfl
  simp only [VR] at e1 e2
  obtain ⟨_, b, hb, e1⟩ := e1
  obtain ⟨_, b', hb', e2⟩ := e2
  rw [hb] at hb'; simp only [Option.some.injEq] at hb'; subst hb'
  obtain ⟨j, _, _, hte, _⟩ := tk_spec hkk
  refine good_bin hs ho e1 e2 (by simp [eqGuard]) ?_
  have h : ∀ d : Nat, (Op.equalIn (d + 1) T (.pointer (some ⟨b, off, none⟩)) (.pointer (some ⟨b, off, none⟩))).run C.P w = .ok true w := fun d => by
    simp [Op.equalIn, run_underlying hT, sizeOf, typeInfo, hte, run_sameAddr_same]
  simp only [binOp]
  simp [Op.equal, Op.maxDepth, h 9999]

theorem shape_of {w : World} {b : Nat} {vs : Array Value} {T : TypeId} (h : w.heap[b]? = some (.cells vs T (0, 0))) : w.shape? b = some (T, vs.size) := by
  simp [World.shape?, h]

/-- a pointer seen as no type's -/
theorem AW.toUnsafe {src dst t : TypeId} {x : Operand} {id off : Nat} {T : TypeId} {cs : List AV} {kk : TK} (hgd : o.guard = none) (ho : o.op = .convert src dst x) (hx : ev σ x = some (true, .ptr id off)) (hl : lk id σ.h = some (.cells T cs))
    (hs' : C.P.underlying src = some (.pointer t)) (hd' : C.P.underlying dst = some .unsafePointer) (hkk : tk C.P t = some kk) (hj : kk.sz ≠ 0) (hoff : off < cs.length) (hk : AWn C n all os k (σ.put o.dst (.ptr id off))) : AW C all (o :: os) k σ := by
  refine AW.op _ hgd (fun ι S a w hs => ?_) hk
  have e0 := ev_sound hs hx rfl
  have e1 := e0
  simp only [VR] at e1
  obtain ⟨_, b, hb, e1⟩ := e1
  obtain ⟨hid, b', vs, hb', hh, hv, hone⟩ := hs.mem.obj id _ hl
  rw [hb] at hb'; simp only [Option.some.injEq] at hb'; subst hb'
  have hlen := hv.length
  obtain ⟨j, _, _, ht, _, _, hsz, _⟩ := tk_spec hkk
  have := Lib.run_to_unsafe (P := C.P) w ⟨b, off, none⟩ hs' hd' ht (by rw [← hsz]; exact hj) (shape_of hh) (by show off < vs.size; simp only [Array.length_toList] at hlen; omega)
  exact .same hs (y := .pointer (some ⟨b, off, none⟩)) (by simp [execOp, ho, e1, this]) (by rw [e1] at e0; exact e0)
/-- .. and back -/
theorem AW.fromUnsafe {src dst u : TypeId} {x : Operand} {id off : Nat} {T : TypeId} {cs : List AV} {kk : TK} (hgd : o.guard = none) (ho : o.op = .convert src dst x) (hx : ev σ x = some (true, .ptr id off)) (hl : lk id σ.h = some (.cells T cs))
    (hs' : C.P.underlying src = some .unsafePointer) (hd' : C.P.underlying dst = some (.pointer u)) (hkk : tk C.P u = some kk) (hlies : liesAt C.P C.P.depth T (cs.length / C.P.cellsOf T) off u 1 = true) (hk : AWn C n all os k (σ.put o.dst (.ptr id off))) : AW C all (o :: os) k σ := by
  refine AW.op _ hgd (fun ι S a w hs => ?_) hk
  have e0 := ev_sound hs hx rfl
  have e1 := e0
  simp only [VR] at e1
  obtain ⟨_, b, hb, e1⟩ := e1
  obtain ⟨hid, b', vs, hb', hh, hv, hone⟩ := hs.mem.obj id _ hl
  rw [hb] at hb'; simp only [Option.some.injEq] at hb'; subst hb'
  have hlen := hv.length
  simp only [Array.length_toList] at hlen
  obtain ⟨j, _, _, ht, _⟩ := tk_spec hkk
  have := Lib.run_from_unsafe (P := C.P) w ⟨b, off, none⟩ hs' hd' ht (shape_of hh) (by rw [hlen]; exact hlies)
  exact .same hs (y := .pointer (some ⟨b, off, none⟩)) (by simp [execOp, ho, e1, this]) (by rw [e1] at e0; exact e0)

/-- a call of a function that has no code, by what stands in for it -/
theorem ACall.extern {c : Bool} {need : Prop} {f : FuncId} {args : List AV} {fn : Func} {e : Array Value → Sem Value} (v : AV) (hf : C.P.funcs[f]? = some fn) (hname : (fn.name == "runtime.NumGoroutine") = false) (hb : fn.body.isNone = true) (hnx : Extern.findNext fn = none) (he : Extern.find fn = some e)
    (hgd : o.guard = none) (hn : need)
    (hrun : ∀ S ι w vals, VRs S ι σ.n w args vals.toList → ∃ y, (e vals).run C.P w = .ok y w ∧ VR S ι σ.n w v y) (hk : AWn C n all os k (σ.put o.dst v)) : ACall C n all o os k σ c need f args := by
  intro hg hop
  refine AW.op _ hgd (fun ι S a w hs => ?_) hk
  obtain ⟨cl, x, ho, hcal, hcall⟩ := call_val hop
  -- as in s_call, with the stand-in's answer
  unfold aCallV at hcall
  have key : ∀ (fs cs vs' : List AV) (fsv csv : Array Value), a.eval x = .func (.func f) fsv csv → VRs S ι σ.n w (fs ++ (vs' ++ cs)) (fsv ++ cl.args.map a.eval ++ csv).toList → args = fs ++ (vs' ++ cs) → Good C.P C.E C.N a w (execOp a.eval o) v σ := by
    intro fs cs vs' fsv csv ef hv hargs
    obtain ⟨y, hr, hvy⟩ := hrun S ι w (fsv ++ cl.args.map a.eval ++ csv) (by rw [hargs]; exact hv)
    have hcf := run_callFunc_extern (P := C.P) hf hname hb hnx he (fsv ++ cl.args.map a.eval ++ csv) w
    rw [hr] at hcf
    refine .same hs (y := y) ?_ hvy
    simp only [Result.andThen_ok] at hcf
    rw [Array.append_assoc] at hcf
    simp [execOp, ho, resolve, hcal, Deferred.ofValue, ef, invoke, hcf]
  split at hcall
  · rename_i c1 f' first cap c2 vs h1 h2
    injection hcall with e1 e2 e3
    subst e1 e2 e3
    have k1 := ev_sound hs h1 hn.1
    simp only [VR] at k1
    obtain ⟨fs, cs, ef, hfs, hcs⟩ := k1
    refine key first cap vs fs cs ef ?_ rfl
    simp only [Array.toList_append, Array.toList_map, List.append_assoc]
    exact hfs.append ((evl_sound hs h2 hn.2).append hcs)
  · rename_i c1 f' first cap c2 vs h1 h2
    injection hcall with e1 e2 e3
    subst e1 e2 e3
    have k1 := ev_sound hs h1 hn.1
    simp only [VR, FR] at k1
    obtain ⟨fs, cs, ef, hfs, hcs⟩ := k1
    refine key (first.map .f) (cap.map .f) vs fs cs ef ?_ rfl
    simp only [Array.toList_append, Array.toList_map, List.append_assoc]
    exact (VRs_map_f.2 hfs).append ((evl_sound hs h2 hn.2).append (VRs_map_f.2 hcs))
  · cases hcall

def ownAll (τ : List (Nat × Nat)) (n0 : Nat) (h0 : Heap) (as args : List AV) (h : Heap) (m : Nat) : Prop :=
  args = AV.rens (rn τ) as ∧ AV.unds n0 as ∧ subH τ n0 h h0 ∧ apartH τ h0 ∧ belowAll τ m n0
/-- a promise that tells the end just so -/
def GD (P : Program) (f : FuncId) (n0 : Nat) (h0 : Heap) (args : List AV) (av1 : AV) (h1 : Heap) (n1 : Nat) : Prop := GC P f n0 h0 args fun av σ => av = av1 ∧ σ = ⟨[], h1, n1⟩
theorem ACall.det {need : Prop} {f : FuncId} {args : List AV} (τ : List (Nat × Nat)) {n0 : Nat} {h0 : Heap} {as : List AV} {av1 : AV} {h1 : Heap} {n1 : Nat} (hf : enters C.P f = true) (hgc : GD C.P f n0 h0 as av1 h1 n1) (ha : ownAll τ n0 h0 as args σ.h σ.n) (hn : need)
    (hk : AWn C n all os k (St.put ⟨σ.t, renH (shift τ n0 σ.n) h1 ++ delAll τ h0 σ.h, σ.n + (n1 - n0)⟩ o.dst (av1.ren (shift τ n0 σ.n)))) : ACall C n all o os k σ true need f args := by
  refine ACall.own τ hf hgc ha.1 ha.2.1 ha.2.2.1 ha.2.2.2.1 ha.2.2.2.2 hn ?_
  rintro av h m ⟨rfl, e⟩
  injection e with _ e1 e2
  subst e1 e2
  exact hk
/-- an operation shown by hand that turns the state -/
theorem AW.op' {v : AV} {σ' : St} (hgd : o.guard = none) (h : ∀ ι S a w, Sim C.E C.N σ ι S a w → Good C.P C.E C.N a w (execOp a.eval o) v σ') (hk : AWn C n all os k (σ'.put o.dst v)) : AW C all (o :: os) k σ := by
  intro ok hsuf hok hki ι S a w hs
  have hd := okOps_mem hok (hsuf.subset (List.mem_cons_self ..))
  have hsuf' : os <:+ all := (List.suffix_cons o os).trans hsuf
  have hg : guardOf all σ o.guard = some true := by rw [hgd]; rfl
  refine at_step (σ := σ) ?_ ?_ hs hg hsuf hok
  · intro c' hc' _
    refine wp_of_good (h ι S a w hs) hd ?_
    intro ι' S' a' w' hs'
    exact AWn_sound _ _ _ _ _ hk ok hsuf' hok hki ι' S' a' w' hs'
  · intro c' hc' hct
    rw [hg] at hc'; simp only [Option.some.injEq] at hc'
    rw [← hc'] at hct; cases hct

theorem take_len_map {α β : Type} (f : α → β) (l : List α) : (l.map f).take l.length = l.map f := by
  rw [List.take_of_length_le (by simp)]
theorem take_len_append {α : Type} (l l' : List α) : (l ++ l').take l.length = l := by simp

theorem PC.in {P : Program} {f : FuncId} {fn : Func} {c : Code} {args : List FV} {Φ : FV → Prop} (n : Nat) (hf : P.funcs[f]? = some fn) (hm : P.follows .mixedOrders = true) (hb : fn.body = some c) (hok : okFn fn args.length = true)
    (h : ∀ (Ph : Value → World → Prop) (Ps : Option Code → World → Prop) (E : Ent) (Q : AV → St → Prop), E.n = 0 → (∀ av h n, RF Φ av ⟨[], h, n⟩ → Q av ⟨[], h, n⟩) → AWn ⟨P, f, fn.ntmps, fn.results.toList, E, Q, none, Ph, Ps⟩ n [] [] [.code c] ⟨slots 0 (args.map .f), [], 0⟩) : PC P f args Φ :=
  PC.intro n hf hm hb hok fun E hE Ph Ps => h Ph Ps E (RF Φ) hE fun _ _ _ h => h
theorem GC.in {P : Program} {f : FuncId} {fn : Func} {c : Code} {n0 : Nat} {h0 : Heap} {args : List AV} {R : AV → St → Prop} (n : Nat) (hf : P.funcs[f]? = some fn) (hm : P.follows .mixedOrders = true) (hb : fn.body = some c) (hok : okFn fn args.length = true)
    (h : ∀ (Ph : Value → World → Prop) (Ps : Option Code → World → Prop) (E : Ent) (Q : AV → St → Prop), E.n = n0 → (∀ av h n av1 h1 n1, Imp E ⟨[(0, av)], h, n⟩ ⟨[(0, av1)], h1, n1⟩ → R av1 ⟨[], h1, n1⟩ → Q av ⟨[], h, n⟩) → AWn ⟨P, f, fn.ntmps, fn.results.toList, E, Q, none, Ph, Ps⟩ n [] [] [.code c] ⟨slots 0 args, h0, n0⟩) : GC P f n0 h0 args R :=
  GC.intro n hf hm hb hok fun E hE Ph Ps => h Ph Ps E (RI E R) hE fun _ _ _ _ _ _ hi hr => .to _ _ _ hi hr
theorem GD.in {P : Program} {f : FuncId} {fn : Func} {c : Code} {n0 : Nat} {h0 : Heap} {args : List AV} {av1 : AV} {h1 : Heap} {n1 : Nat} (n : Nat) (hf : P.funcs[f]? = some fn) (hm : P.follows .mixedOrders = true) (hb : fn.body = some c) (hok : okFn fn args.length = true)
    (h : ∀ (Ph : Value → World → Prop) (Ps : Option Code → World → Prop) (E : Ent) (Q : AV → St → Prop), E.n = n0 → (∀ av h n, Imp E ⟨[(0, av)], h, n⟩ ⟨[(0, av1)], h1, n1⟩ → Q av ⟨[], h, n⟩) → AWn ⟨P, f, fn.ntmps, fn.results.toList, E, Q, none, Ph, Ps⟩ n [] [] [.code c] ⟨slots 0 args, h0, n0⟩) : GD P f n0 h0 args av1 h1 n1 :=
  GC.intro n hf hm hb hok fun E hE Ph Ps => h Ph Ps E (RI E _) hE fun _ _ _ hi => .to _ _ _ hi ⟨rfl, rfl⟩

/-- a string's bytes appended -/
theorem strCells_eq (x : List UInt8) : Lib.strCells ⟨⟨x⟩⟩ = x.map vu8 := by simp [Lib.strCells, vu8]
theorem str_app {P : Program} {w : World} {T U V e : TypeId} (hu : P.underlying T = some (.slice e)) (hU : P.underlying U = some .string) {kk : TK} (hkk : tk P e = some kk) (h1 : kk.sz = 1) (x : List UInt8) :
    AppSrc P w T U V e (.string ⟨⟨x⟩⟩) x.length (x.map vu8) := by
  obtain ⟨i0, d0, z0, hi0, _, hz0, hsz0, _⟩ := tk_spec hkk
  have hsize : (⟨⟨x⟩⟩ : ByteArray).size = x.length := rfl
  have one : ∀ i, P.info? e = some i → i.size = 1 := fun i hi => by
    rw [hi0] at hi; simp only [Option.some.injEq] at hi; subst hi; omega
  refine ⟨?_, ?_, ?_, ?_⟩
  · intro h0 base len cap hle
    have hx : x = [] := List.length_eq_zero_iff.1 h0
    subst hx
    have hfc : (Builtin.firstCells i0.size 0 (.string ⟨⟨[]⟩⟩)).run P w = .ok #[] w := by simp [Builtin.firstCells]
    have h00 : (⟨⟨[]⟩⟩ : ByteArray).size = 0 := rfl
    cases base with
    | none => simp [h00, Builtin.append_, run_underlying hu, run_underlying hU, sizeOf, typeInfo, hi0, Builtin.lenOf, hle, hfc]
    | some b => simp [h00, Builtin.append_, run_underlying hu, run_underlying hU, sizeOf, typeInfo, hi0, Builtin.lenOf, hle, hfc, storeCells]
  · intro h0 i z hu' hi hz hn h63 h48
    have := run_append_nil_string (P := P) w T U V e i z hu hU hi hz ⟨⟨x⟩⟩ h0 (by rw [hsize]; omega) (by rw [hsize]; exact h48)
    rw [hsize] at this
    rw [this]
    simp
    rfl
  · intro h0 i hu' hi g len cap cur hg hn hone hroom hfit
    have h1i := one i hi
    rw [h1i, Nat.mul_one] at hfit ⊢
    have := Lib.run_append_room_string (P := P) w T U V e i hu hU hi h1i g len cap cur hg ⟨⟨x⟩⟩ (by rw [hsize]; exact hroom) (by rw [hsize]; simpa using hfit)
    rw [hsize, strCells_eq] at this
    rw [this]
    simp
  · intro h0 i z hu' hi hz b len cap olds hlo holds hn hlt h63 hfit
    have := Lib.run_append_grow_string (P := P) w T U V e i z hu hU hi hz b len cap olds hlo holds ⟨⟨x⟩⟩ (by rw [hsize]; exact hlt) (by rw [hsize]; omega) (by rw [hsize]; exact hfit)
    rw [hsize, strCells_eq] at this
    exact this

theorem AW.apStr {T U e : TypeId} {s x : Operand} {id len : Nat} {xs : List FV} {l : List UInt8} {kk : TK} (hgd : o.guard = none) (ho : o.op = .call { callee := .builtin .append, args := #[s, x], argTypes := #[T, U] }) (hs0 : ev σ s = some (true, .sl id 1 0 len)) (hx : ev σ x = some (true, .s (str l)))
    (hl : lk id σ.h = some (.row e 1 xs)) (hlen : xs.length = len) (hu : C.P.underlying T = some (.slice e)) (hU : C.P.underlying U = some .string) (hkk : tk C.P e = some kk) (h1 : kk.sz = 1) (hb1 : kk.bytes = 1) (hln : len + l.length ≤ 140737488355328)
    (hk : AWn C n all os k (St.put ⟨σ.t, (σ.n, .row e 1 (xs ++ l.map u8)) :: hdel id σ.h, σ.n + 1⟩ o.dst (.sl σ.n 1 0 (len + l.length)))) : AW C all (o :: os) k σ := by
  refine AW.op' hgd (fun ι S a w hs => ?_) hk
  have e1 := ev_sound hs hs0 rfl
  have e2 := vr_v (ev_sound hs hx rfl)
  have A := str_app (P := C.P) (w := w) (T := T) (U := U) (V := o.type) hu hU hkk h1 l
  have hr : FRrow S w 1 (l.map u8) (l.map vu8) := by simpa using FRrow_u8 S w l []
  have fin : ∀ r w', (Builtin.append_ #[T, U] o.type #[a.eval s, .string ⟨⟨l⟩⟩]).run C.P w = .ok r w' → (execOp a.eval o).run C.P w = .ok (.value r) w' := by
    intro r w' h
    simp [execOp, ho, resolve, invoke, builtin, e2, str, h]
  rw [← h1] at hl hr
  simp only [VR] at e1
  obtain ⟨hid, ⟨hbn, _, hl0, hcap, e1⟩ | ⟨b, oo, hbn, hcap, _, ho0, e1⟩⟩ := e1
  · have hxs : xs = [] := List.length_eq_zero_iff.1 (by omega)
    subst hxs
    subst hl0
    obtain ⟨r, w', ι', hrun, hs', hv⟩ := append_nil (V := o.type) hu hkk (by omega) (hs.del id) (ys := l.map u8) (by simp) A (by simp [h1]) hr (by rw [hb1]; simp; omega) (by simp; omega)
    rw [h1] at hs' hv
    refine ⟨r, w', ι', S, .inl (fin r w' (by rw [e1]; exact hrun)), by simpa using hs', by simpa using hv⟩
  · have := ho0 trivial; subst this
    obtain ⟨r, w', ι', hrun, hs', hv⟩ := append_own (V := o.type) hu hkk (by omega) hs (ys := l.map u8) (by simp) A (by simp [h1]) hr hl hbn (len := len) (by omega) (by rw [hb1]; simp; omega) (by simp; omega)
    rw [h1] at hs' hv
    refine ⟨r, w', ι', S, .inl (fin r w' (by rw [e1]; simpa using hrun)), ?_, by simpa using hv⟩
    rw [List.take_of_length_le (by omega)] at hs'
    exact hs'
theorem AW.apStrNil {T U e : TypeId} {s x : Operand} {l : List UInt8} {kk : TK} (hgd : o.guard = none) (ho : o.op = .call { callee := .builtin .append, args := #[s, x], argTypes := #[T, U] }) (hs0 : ev σ s = some (true, .s (.slice none 0 0))) (hx : ev σ x = some (true, .s (str l)))
    (hu : C.P.underlying T = some (.slice e)) (hU : C.P.underlying U = some .string) (hkk : tk C.P e = some kk) (h1 : kk.sz = 1) (hb1 : kk.bytes = 1) (hln : l.length ≤ 140737488355328)
    (hk : AWn C n all os k (St.put ⟨σ.t, (σ.n, .row e 1 (l.map u8)) :: σ.h, σ.n + 1⟩ o.dst (.sl σ.n 1 0 l.length))) : AW C all (o :: os) k σ := by
  refine AW.op' hgd (fun ι S a w hs => ?_) hk
  have e1 := vr_v (ev_sound hs hs0 rfl)
  have e2 := vr_v (ev_sound hs hx rfl)
  have A := str_app (P := C.P) (w := w) (T := T) (U := U) (V := o.type) hu hU hkk h1 l
  have hr : FRrow S w 1 (l.map u8) (l.map vu8) := by simpa using FRrow_u8 S w l []
  rw [← h1] at hr
  obtain ⟨r, w', ι', hrun, hs', hv⟩ := append_nil (V := o.type) hu hkk (by omega) hs (ys := l.map u8) (by simp) A (by simp [h1]) hr (by rw [hb1]; simp; omega) (by simp; omega)
  rw [h1] at hs' hv
  refine ⟨r, w', ι', S, .inl ?_, hs', by simpa using hv⟩
  simp [execOp, ho, resolve, invoke, builtin, e1, e2, str, hrun]

theorem VQs.mk {L : List Oper} {fuel : Nat} {tail : List Oper} {h : Heap} {m : Nat} {t : List (Nat × AV)} {c : Bool} (v : AV) (h1 : StepOK C L k h m o t (mkg c v)) (h2 : VQ C L fuel tail k h m n os (putT t o.dst (mkg c v))) : VQs C L fuel tail k h m n os o t c := by
  simp only [VQs]
  exact ⟨v, h1, h2⟩
/-- an operation of a region, shown by hand, that leaves the world as it is -/
theorem step_hand {L : List Oper} {h : Heap} {m : Nat} {t : List (Nat × AV)} {v : AV} (hgd : o.guard = none)
    (hr : ∀ ι S a w, Sim C.E C.N ⟨pickT t (o.looksAt L.toArray), h, m⟩ ι S a w → ∃ y, (execOp a.eval o).run C.P w = .ok (.value y) w ∧ VR S ι m w v y) : StepOK C L k h m o t (mkg true v) := by
  intro u ι S a w hs hl hd next hnext
  have hp := sim_pick hs hl
  have hw : Region.wanted o (yielded L.toArray a.tmps) = true := by simp [Region.wanted, hgd]
  rw [hw]
  refine ⟨fun _ => ?_, fun h => by cases h⟩
  obtain ⟨y, hrun, hv⟩ := hr ι S a w hp
  unfold Oper.wp
  rw [hrun, Oper.upon_value]
  refine hnext ι S _ w ?_
  rw [← put_putT]
  exact hs.put hd hv

/-- a block turns that no one leads to any more -/
theorem Mem.touch {E : Ent} {h : Heap} {n : Nat} {ι : Nat → Loc} {S : Nat → Prop} {w w' : World} {b : Nat} (hm : Mem E h n ι S w) (hq : Only w w' b) (hS : ¬ S b) (ho : ∀ id o, lk id h = some o → (ι id).b ≠ some b) (hE : E.own b ∨ E.w.heap.size ≤ b) : Mem E h n ι S w' where
  obj i oi hi := ⟨(hm.obj i oi hi).1, (hm.obj i oi hi).2.mono (fun _ h => h) (fun b' hb' => hq.heap b' fun e => by subst e; exact hS hb') (Nat.le_refl _) (fun _ _ => rfl) (fun b' hb' => hq.heap b' fun e => by subst e; exact ho i oi hi hb')⟩
  own i oi b' hi hb' := by rw [hq.size]; exact hm.own i oi b' hi hb'
  inj := hm.inj
  slt b' hb' := by rw [hq.size]; exact hm.slt b' hb'
  ssub := hm.ssub
  ssup := hm.ssup
  keep b' hb' hno := by
    rw [hq.heap b']
    · exact hm.keep b' hb' hno
    · intro e; subst e
      rcases hE with h' | h'
      · exact hno h'
      · omega
  size := by rw [hq.size]; exact hm.size
  os := hq.os.trans hm.os
  tape := hq.tape.trans hm.tape
  output := hq.output.trans hm.output
  names := hm.names
  same := hm.same

/-- unsafe.SliceData of an owned row that is not empty -/
theorem step_sliceData {L : List Oper} {h : Heap} {m : Nat} {t : List (Nat × AV)} {x : Operand} {T T' : TypeId} {id len : Nat} {xs : List FV} (hgd : o.guard = none) (ho : o.op = .call { callee := .builtin .unsafeSliceData, args := #[x], argTypes := #[T] })
    (hx : ev ⟨pickT t (o.looksAt L.toArray), h, m⟩ x = some (true, .sl id 1 0 len)) (hl : lk id h = some (.row T' 1 xs)) (h0 : xs ≠ []) : StepOK C L k h m o t (mkg true (.rp id 1 0 0)) := by
  refine step_hand hgd fun ι S a w hs => ?_
  have e1 := ev_sound hs hx rfl
  simp only [VR] at e1
  obtain ⟨hid, ho'⟩ := hs.mem.obj id _ hl
  rcases ho' with ⟨hb, _, hxs⟩ | ⟨b, vs, hb, hh, hlc, hcm, hvs, hr⟩
  · exact absurd hxs h0
  · obtain ⟨_, ⟨hbn, _⟩ | ⟨b', oo, hbn, hcap, _, ho0, e1⟩⟩ := e1
    · rw [hb] at hbn; cases hbn
    · rw [hb] at hbn; simp only [Option.some.injEq] at hbn; subst hbn
      have := ho0 trivial; subst this
      have hpos : 0 < xs.length := List.length_pos_iff.2 h0
      have := Lib.run_unsafeSliceData_row (P := C.P) (w := w) #[T] o.type ⟨b, 0, none⟩ len ((ι id).cap - 0) (by omega)
      refine ⟨.pointer (some ⟨b, 0, none⟩), by simp only [Nat.sub_zero] at this e1; simp [execOp, ho, resolve, invoke, builtin, e1, this], ?_⟩
      simp only [VR]
      exact ⟨hid, b, hb, by simp⟩

/-- unsafe.String over an owned row: the row is told no more -/
theorem AW.unsafeString {x y : Operand} {pt it e : TypeId} {id : Nat} {l : List UInt8} (hgd : o.guard = none) (ho : o.op = .call { callee := .builtin .unsafeString, args := #[x, y], argTypes := #[pt, it] })
    (hx : ev σ x = some (true, .rp id 1 0 0)) (hy : ev σ y = some (true, .s (.int .i64 l.length))) (hl : lk id σ.h = some (.row e 1 (l.map u8))) (h0 : l ≠ []) (hp : C.P.underlying pt = some (.pointer e)) (hc : C.P.cellsOf e = 1) (hlen : l.length ≤ 9223372036854775807)
    (hk : AWn C n all os k (St.put ⟨σ.t, hdel id σ.h, σ.n⟩ o.dst (.s (str l)))) : AW C all (o :: os) k σ := by
  refine AW.op' hgd (fun ι S a w hs => ?_) hk
  have e1 := ev_sound hs hx rfl
  have e2 := vr_v (ev_sound hs hy rfl)
  simp only [VR] at e1
  obtain ⟨_, b', hb', e1⟩ := e1
  obtain ⟨hid, ⟨hb, _, hxs⟩ | ⟨b, vs, hb, hh, hlc, hcm, hvs, hr⟩⟩ := hs.mem.obj id _ hl
  · exact absurd (by simpa using hxs) h0
  · rw [hb] at hb'; simp only [Option.some.injEq] at hb'; subst hb'
    have hown := hs.mem.own id _ b hl hb
    have hll : l.length ≤ vs.size := by simp only [List.length_map] at hlc; omega
    have hcell : ∀ j x, l[j]? = some x → w.cell? ((⟨b, 0, none⟩ : Addr).add j) = some (.int .u8 x.toNat) := by
      intro j x hj
      rw [add_off]
      refine cell_of hh ?_
      obtain ⟨z, hz, hz2, hz3, _⟩ := hr.get (i := j) (x := u8 x) (by simp [hj])
      simp only [u8, FR] at hz
      obtain ⟨rfl, _⟩ := hz
      simp only [Value.cells, Nat.mul_one] at hz2
      have : (vs.toList.drop j).take 1 = [.int .u8 x.toNat] := hz2.symm
      have h5 : ((vs.toList.drop j).take 1)[0]? = some (.int .u8 x.toNat) := by rw [this]; rfl
      rw [List.getElem?_take, List.getElem?_drop] at h5
      simpa using h5
    have hrun := Lib.run_unsafeString_row (P := C.P) w pt it o.type e hp hc b vs.size (shape_of hh) l h0 hll hlen hcell
    have honly : Only w (w.freeze ⟨b, 0, none⟩ l.length) b := by
      have hn : l.length ≠ 0 := fun e => h0 (List.length_eq_zero_iff.1 e)
      unfold World.freeze
      rw [if_neg hn]
      refine ⟨fun b' hb' => ?_, by simp, rfl, rfl, rfl⟩
      simp only [Array.getElem?_modify]
      rw [if_neg (fun e => hb' e.symm)]
    have hs' : Sim C.E C.N ⟨σ.t, hdel id σ.h, σ.n⟩ ι S a (w.freeze ⟨b, 0, none⟩ l.length) := by
      refine ⟨(hs.mem.del id).touch honly hown.2.1 ?_ hown.2.2, hs.tsz, fun t v h => (hs.tm t v h).mono (fun _ h => h) (fun b' hb' => honly.heap b' fun e => by subst e; exact hown.2.1 hb') (Nat.le_refl _) (fun _ _ => rfl), hs.def0⟩
      intro i oi hi hbi
      rw [lk_hdel] at hi
      split at hi
      · cases hi
      · rename_i hne; exact hne (hs.mem.inj i id oi _ b hi hl hbi hb)
    refine ⟨.string ⟨l.toArray⟩, _, ι, S, .inl ?_, hs', mk_v rfl⟩
    have e1' : a.eval x = .pointer (some ⟨b, 0, none⟩) := by simpa using e1
    simp [execOp, ho, resolve, invoke, builtin, e1', e2, hrun]
end
end Go.Fw

set_option linter.unusedVariables false
namespace Go.Fw
open Go

theorem PC.of_calls {P : Program} {f : FuncId} {xs : List Value} {v : Value} {r : FV} (hr : ∀ S w, FR S w r v) (h : ∀ w, Calls P f xs.toArray w fun e w' => e = .returned v ∧ Quiet w w') : PC P f (xs.map .v) (· = r) := by
  intro S w vals hS hv
  have hvals : vals = xs.toArray := by
    have : ∀ (xs : List Value) (ys : List Value), FRs S w (xs.map .v) ys → ys = xs := by
      intro xs
      induction xs with
      | nil => intro ys h; simpa only [List.map_nil, FRs] using h
      | cons x xs ih =>
        intro ys h
        simp only [List.map_cons, FRs, FR] at h
        obtain ⟨y, ys', rfl, ⟨rfl, _⟩, h2⟩ := h
        rw [ih _ h2]
    have h1 := this xs vals.toList hv
    rw [← h1]
  rw [hvals]
  refine (h w).mono ?_
  rintro e w' ⟨rfl, hq⟩
  exact ⟨v, r, S, rfl, rfl, fun _ h => h, fun _ h => .inl h, hq, hr S w'⟩

theorem Quiet.freeze (w w1 : World) (hq : Quiet w w1) {b o n : Nat} (hb : w.heap.size ≤ b) : Quiet w (w1.freeze ⟨b, o, none⟩ n) := by
  unfold World.freeze
  split
  · exact hq
  · refine ⟨fun b' hb' => ?_, by simpa using hq.size, hq.os, hq.tape, hq.output⟩
    simp only [Array.getElem?_modify]
    rw [if_neg (by omega)]
    exact hq.heap b' hb'
theorem Quiet.bytes (w : World) (e : TypeId) (s : ByteArray) : Quiet w (Lib.bytesWorld w e s) := by
  unfold Lib.bytesWorld
  exact Quiet.freeze w _ ((Quiet.drew w).trans (Quiet.alloc w.drew _)) (Nat.le_refl _)

/-- frozen rows handed over for the call alone: the answer is told without them -/
theorem PC.const {P : Program} {f : FuncId} {args : List FV} {Φ : FV → Prop} (h : PC P f args Φ) : PC P f args Φ := h
theorem getD_u8 (b : List UInt8) (j : Nat) : (b.map u8).getD j (.v (.int .u8 0)) = u8 (b.getD j 0) := by
  simp only [List.getD, List.getElem?_map]
  cases b[j]? <;> simp [u8]
theorem take_succ_getD (b : List UInt8) (j : Nat) (h : j < b.length) : b.take (j + 1) = b.take j ++ [b.getD j 0] := by
  rw [List.take_add_one, List.getD, List.getElem?_eq_getElem h]; rfl
end Go.Fw

set_option linter.unusedVariables false
namespace Go.Fw
open Go

/-- an operation goes from one heap to another, from wherever it is ready -/
def StepTo (C : Cx) (L : List Oper) (k : List Item) (h h' : Heap) (m : Nat) (o : Oper) (t : List (Nat × AV)) (v : AV) : Prop :=
  ∀ u ι S a w, Sim C.E C.N ⟨u, h, m⟩ ι S a w → (∀ x ∈ o.looksAt L.toArray, ∀ z, lk x t = some z → lk x u = some z) → (∀ d, o.dst = some d → d < C.N) →
    ∀ next : Act → World → Prop, (∀ ι' S' a' w', Sim C.E C.N ⟨putT u o.dst v, h', m⟩ ι' S' a' w' → next a' w') →
      (Region.wanted o (yielded L.toArray a.tmps) = true → o.wp C.P a w next (QN C k)) ∧ (Region.wanted o (yielded L.toArray a.tmps) = false → next (a.put o.dst undef) w)
/-- where an operation stands to the store: 3 it is the store, 1 ahead of it, 2 behind it, 0 on either side -/
def modeOf (L : List Oper) (s i : Nat) : Nat := bif i == s then 3 else bif reach L 9 s i then 1 else bif reach L 9 i s then 2 else 0
def modesOf (L : List Oper) (s p : Nat) : List Nat := (List.range p).map (modeOf L s)
structure MOK (C : Cx) (L : List Oper) (k : List Item) (h h' : Heap) (m μ : Nat) (o : Oper) (t : List (Nat × AV)) (v : AV) : Prop where
  at3 : μ = 3 → StepTo C L k h h' m o t v
  fore : μ = 0 ∨ μ = 1 → StepOK C L k h m o t v
  back : μ = 0 ∨ μ = 2 → StepOK C L k h' m o t v

section
variable (C : Cx) (L : List Oper) (fuel : Nat) (tail : List Oper) (k : List Item) (h h' : Heap) (m : Nat)
mutual
def VMc : List Nat → List Oper → Oper → List (Nat × AV) → Bool → Res → Res → Prop
  | ms, os, o, t, c, .val need v _, .val need' v' _ => (c = true → need ∧ need') ∧ v' = v ∧ VM ms os (putT t o.dst (mkg c v))
  | _, _, _, _, _, _, _ => False
def VMp : List Nat → List Oper → Oper → List (Nat × AV) → Bool → Res → Prop
  | ms, os, o, t, c, .call need f args => ∃ as r, (c = true → need ∧ enters C.P f = true ∧ AV.fzs args = some as ∧ PC C.P f as (· = r)) ∧ VM ms os (putT t o.dst (mkg c (.f r)))
  | ms, os, o, t, c, .val _ _ _ => False
  | ms, os, o, t, c, .bad => False
def VMz : List Nat → List Oper → Oper → List (Nat × AV) → Bool → Prop → Option (Prop × FV × St) → Prop
  | ms, os, o, t, c, need, some (d, y, _) => (c = true → need ∧ d) ∧ VM ms os (putT t o.dst (mkg c (.f y)))
  | _, _, _, _, _, _, none => False
def VMf : List Nat → List Oper → Oper → List (Nat × AV) → Bool → Res → Prop
  | ms, os, o, t, c, .val need v σ' => VMz ms os o t c need (release σ' v)
  | _, _, _, _, _, _ => False
def VMs : List Nat → List Oper → Oper → List (Nat × AV) → Bool → Option (Bool × AV) → Res → Prop
  | ms, os, o, t, c, some (_, .ptr _ _), .val need v σ' => (c = true → need) ∧ (bif c then σ'.h else h) = h' ∧ VM ms os (putT t o.dst (mkg c v))
  | _, _, _, _, _, _, _ => False
def VMo : List Nat → List Oper → Oper → List (Nat × AV) → Bool → Op → Prop
  | ms, os, o, t, c, .store T x y => VMs ms os o t c (ev ⟨pickT t (o.looksAt L.toArray), h, m⟩ x) (aStore ⟨pickT t (o.looksAt L.toArray), h, m⟩ (ev ⟨pickT t (o.looksAt L.toArray), h, m⟩ x) (ev ⟨pickT t (o.looksAt L.toArray), h, m⟩ y) (tk C.P T))
  | _, _, _, _, _, _ => False
def VMk : List Nat → List Oper → Oper → List (Nat × AV) → Bool → Nat → Nat → Prop
  | ms, os, o, t, c, 3, _ => VMo ms os o t c o.op
  | ms, os, o, t, c, 0, 0 => VMc ms os o t c (aop (tk C.P) ⟨pickT t (o.looksAt L.toArray), h, m⟩ o.op) (aop (tk C.P) ⟨pickT t (o.looksAt L.toArray), h', m⟩ o.op)
  | ms, os, o, t, c, 1, 0 => VMc ms os o t c (aop (tk C.P) ⟨pickT t (o.looksAt L.toArray), h, m⟩ o.op) (aop (tk C.P) ⟨pickT t (o.looksAt L.toArray), h, m⟩ o.op)
  | ms, os, o, t, c, 2, 0 => VMc ms os o t c (aop (tk C.P) ⟨pickT t (o.looksAt L.toArray), h', m⟩ o.op) (aop (tk C.P) ⟨pickT t (o.looksAt L.toArray), h', m⟩ o.op)
  | ms, os, o, t, c, _, 1 => VMf ms os o t c (aop (tk C.P) ⟨pickT t (o.looksAt L.toArray), [], m⟩ o.op)
  | ms, os, o, t, c, _, 2 => VMp ms os o t c (aop (tk C.P) ⟨pickT t (o.looksAt L.toArray), h, m⟩ o.op)
  | _, _, _, _, _, _, _ => False
def VMg : List Nat → List Oper → Oper → List (Nat × AV) → Nat → Option Bool → Prop
  | ms, os, o, t, μ, some c => VMk ms os o t c μ (qk o.op)
  | _, _, _, _, _, none => False
def VM : List Nat → List Oper → List (Nat × AV) → Prop
  | _, [], t => AWn C fuel L tail k ⟨t, h', m⟩
  | μ :: ms, o :: os, t => VMg ms os o t μ (guardOf L ⟨pickT t (o.looksAt L.toArray), h, m⟩ o.guard)
  | [], _ :: _, _ => False
end
end

def ChainM (C : Cx) (L : List Oper) (k : List Item) (h h' : Heap) (m : Nat) : List Nat → List Oper → List (Nat × AV) → List AV → List (Nat × AV) → Prop
  | _, [], t, vs, t' => vs = [] ∧ t' = t
  | μ :: ms, o :: os, t, vs, t' => ∃ v vs', vs = v :: vs' ∧ MOK C L k h h' m μ o t v ∧ ChainM C L k h h' m ms os (putT t o.dst v) vs' t'
  | [], _ :: _, _, _, _ => False

section
variable {C : Cx} {L : List Oper} {fuel : Nat} {tail : List Oper} {k : List Item} {h h' : Heap} {m : Nat}

theorem ev_heap (t : List (Nat × AV)) (x : Operand) (g1 g2 : Heap) (n1 n2 : Nat) : ev ⟨t, g1, n1⟩ x = ev ⟨t, g2, n2⟩ x := by cases x <;> rfl
theorem evl_heap (t : List (Nat × AV)) (g1 g2 : Heap) (n1 n2 : Nat) : ∀ xs : List Operand, evl ⟨t, g1, n1⟩ xs = evl ⟨t, g2, n2⟩ xs
  | [] => rfl
  | x :: xs => by simp only [evl]; rw [ev_heap t x g1 g2 n1 n2, evl_heap t g1 g2 n1 n2 xs]
theorem guardOf_heap (t : List (Nat × AV)) (g1 g2 : Heap) (n1 n2 : Nat) (ops : List Oper) (g : Option (Nat × Bool)) : guardOf ops ⟨t, g1, n1⟩ g = guardOf ops ⟨t, g2, n2⟩ g := by
  unfold guardOf
  split
  · rfl
  · split
    · rw [ev_heap t _ g1 g2 n1 n2]
    · rfl
theorem call_heap {P : Program} {t : List (Nat × AV)} {g1 : Heap} {n1 : Nat} {op : Op} {need : Prop} {f : FuncId} {args : List AV} (g2 : Heap) (hq : qk op = 2) (h : aop (tk P) ⟨t, g1, n1⟩ op = .call need f args) : aop (tk P) ⟨t, g2, n1⟩ op = .call need f args := by
  cases op with
  | call c =>
    simp only [aop, qk] at h hq ⊢
    split at hq
    · cases hq
    · rename_i hc
      simp only [hc] at h ⊢
      rw [ev_heap t _ g2 g1 n1 n1, evl_heap t g2 g1 n1 n1]
      exact h
    · cases hq
  | _ => simp [qk] at hq

theorem ev_pick {t u : List (Nat × AV)} {xs : List Nat} {g : Heap} {n : Nat} {x : Operand} {r : Bool × AV} (hl : ∀ x ∈ xs, ∀ z, lk x t = some z → lk x u = some z) (h : ev ⟨pickT t xs, g, n⟩ x = some r) : ev ⟨u, g, n⟩ x = some r := by
  cases x with
  | tmp d =>
    simp only [ev, evo] at h ⊢
    cases hd : lk d (pickT t xs) with
    | none => rw [hd] at h; cases h
    | some z =>
      rw [hd] at h
      obtain ⟨h1, h2⟩ := lk_pickT t xs d hd
      rw [hl d h1 z h2]
      exact h
  | _ => exact h

theorem aStore_ptr {t u : List (Nat × AV)} {g : Heap} {n : Nat} {c : Bool} {id off : Nat} {B : Option (Bool × AV)} {K : Option TK} {need : Prop} {v : AV} {σ' : St} (h : aStore ⟨t, g, n⟩ (some (c, .ptr id off)) B K = .val need v σ') : σ'.n = n ∧ aStore ⟨u, g, n⟩ (some (c, .ptr id off)) B K = .val need v ⟨u, σ'.h, n⟩ := by
  match B, K with
  | some (d, w), some kk =>
    simp only [aStore] at h ⊢
    cases hl : lk id g with
    | none => rw [hl] at h; cases h
    | some ob =>
      rw [hl] at h
      cases ob <;> first | (cases h; done) | skip
      cases h
      exact ⟨rfl, rfl⟩
  | none, _ => simp [aStore] at h
  | some _, none => simp [aStore] at h

theorem step_store {o : Oper} {t : List (Nat × AV)} {c : Bool} {need : Prop} {v : AV} {σ' : St} {T : TypeId} {x y : Operand} {c1 : Bool} {id off : Nat} (ho : o.op = .store T x y) (hg : guardOf L ⟨pickT t (o.looksAt L.toArray), h, m⟩ o.guard = some c)
    (hx : ev ⟨pickT t (o.looksAt L.toArray), h, m⟩ x = some (c1, .ptr id off))
    (hr : aStore ⟨pickT t (o.looksAt L.toArray), h, m⟩ (ev ⟨pickT t (o.looksAt L.toArray), h, m⟩ x) (ev ⟨pickT t (o.looksAt L.toArray), h, m⟩ y) (tk C.P T) = .val need v σ') (hn : c = true → need) (hh : (bif c then σ'.h else h) = h') :
    StepTo C L k h h' m o t (mkg c v) := by
  intro u ι S a w hs hl hd next hnext
  have hp := sim_pick hs hl
  have hw := guard_sound (C := C) hp hg
  rw [hw]
  constructor
  · rintro rfl
    simp only [cond_true] at hh
    rw [hx] at hr
    obtain ⟨hn1, hr1⟩ := aStore_ptr (u := u) hr
    have hxu := ev_pick (g := h) (n := m) hl hx
    obtain ⟨ry, hy⟩ : ∃ ry, ev ⟨pickT t (o.looksAt L.toArray), h, m⟩ y = some ry := by
      cases hy : ev ⟨pickT t (o.looksAt L.toArray), h, m⟩ y with
      | some r => exact ⟨r, rfl⟩
      | none => rw [hy] at hr; simp [aStore] at hr
    have hyu := ev_pick (g := h) (n := m) hl hy
    rw [hy] at hr1
    have hop : aop (tk C.P) ⟨u, h, m⟩ o.op = .val need v ⟨u, σ'.h, m⟩ := by
      rw [ho]; simp only [aop]; rw [hxu, hyu]; exact hr1
    rw [hh] at hop
    refine wp_of_good (aop_sound hs hop (hn rfl)) hd ?_
    intro ι' S' a' w' hs'
    rw [put_putT] at hs'
    exact hnext ι' S' a' w' hs'
  · rintro rfl
    simp only [cond_false] at hh
    subst hh
    refine hnext ι S _ w ?_
    rw [← put_putT]
    exact put_false hs hd v

theorem VM_chain : ∀ (ms : List Nat) (os : List Oper) (t : List (Nat × AV)), VM C L fuel tail k h h' m ms os t → ∃ vs t', ChainM C L k h h' m ms os t vs t' ∧ AWn C fuel L tail k ⟨t', h', m⟩
  | ms, [], t, hv => by
    cases ms <;> simp only [VM] at hv <;> exact ⟨[], t, ⟨rfl, rfl⟩, hv⟩
  | [], o :: os, t, hv => by simp only [VM] at hv
  | μ :: ms, o :: os, t, hv => by
    simp only [VM] at hv
    cases hg : guardOf L ⟨pickT t (o.looksAt L.toArray), h, m⟩ o.guard with
    | none => rw [hg] at hv; simp only [VMg] at hv
    | some c =>
      have hg' : guardOf L ⟨pickT t (o.looksAt L.toArray), h', m⟩ o.guard = some c := by rw [← hg]; exact guardOf_heap _ _ _ _ _ _ _
      rw [hg] at hv
      simp only [VMg] at hv
      have fin : ∀ v, MOK C L k h h' m μ o t v → VM C L fuel tail k h h' m ms os (putT t o.dst v) → ∃ vs t', ChainM C L k h h' m (μ :: ms) (o :: os) t vs t' ∧ AWn C fuel L tail k ⟨t', h', m⟩ := by
        intro v hst hvq
        obtain ⟨vs, t', hc, ha⟩ := VM_chain ms os _ hvq
        exact ⟨v :: vs, t', ⟨v, vs, rfl, hst, hc⟩, ha⟩
      unfold VMk at hv
      split at hv
      · -- the store
        unfold VMo at hv
        split at hv
        · rename_i T x y ho
          unfold VMs at hv
          split at hv
          · rename_i e1 e2
            obtain ⟨h1, h2, h3⟩ := hv
            exact fin _ ⟨fun _ => step_store ho hg e1 e2 h1 h2, fun h => by omega, fun h => by omega⟩ h3
          · exact hv.elim
        · exact hv.elim
      · rename_i hq
        unfold VMc at hv
        split at hv
        · rename_i e1 e2
          obtain ⟨h1, rfl, h3⟩ := hv
          exact fin _ ⟨fun h => by omega, fun _ => step_val hq hg e1 fun hc => (h1 hc).1, fun _ => step_val hq hg' e2 fun hc => (h1 hc).2⟩ h3
        · exact hv.elim
      · rename_i hq
        unfold VMc at hv
        split at hv
        · rename_i e1 e2
          obtain ⟨h1, h2, h3⟩ := hv
          exact fin _ ⟨fun h => by omega, fun _ => step_val hq hg e1 fun hc => (h1 hc).1, fun h => by omega⟩ h3
        · exact hv.elim
      · rename_i hq
        unfold VMc at hv
        split at hv
        · rename_i e1 e2
          obtain ⟨h1, h2, h3⟩ := hv
          exact fin _ ⟨fun h => by omega, fun h => by omega, fun _ => step_val hq hg' e1 fun hc => (h1 hc).1⟩ h3
        · exact hv.elim
      · rename_i hn hq
        unfold VMf at hv
        split at hv
        · rename_i e1
          unfold VMz at hv
          split at hv
          · rename_i e2
            exact fin _ ⟨fun h => absurd h hn, fun _ => step_frz hg e1 e2 hv.1, fun _ => step_frz hg' e1 e2 hv.1⟩ hv.2
          · exact hv.elim
        · exact hv.elim
      · rename_i hn hq
        unfold VMp at hv
        split at hv
        · rename_i e1
          obtain ⟨as, r, h1, h2⟩ := hv
          exact fin _ ⟨fun h => absurd h hn, fun _ => step_call hg e1 h1, fun _ => step_call hg' (call_heap _ hq e1) h1⟩ h2
        · exact hv.elim
        · exact hv.elim
      · exact hv.elim

theorem chain_getM : ∀ {ms : List Nat} {os : List Oper} {t : List (Nat × AV)} {vs : List AV} {t' : List (Nat × AV)}, ChainM C L k h h' m ms os t vs t' →
    t' = TDn os (fun i => vs.getD i (.tup [])) t (fun _ => true) os.length ∧ ∀ i o, os[i]? = some o → ∃ μ, ms[i]? = some μ ∧ MOK C L k h h' m μ o (TDn os (fun i => vs.getD i (.tup [])) t (fun _ => true) i) (vs.getD i (.tup []))
  | ms, [], t, vs, t', hc => by
    have : vs = [] ∧ t' = t := by cases ms <;> exact hc
    obtain ⟨rfl, rfl⟩ := this; exact ⟨rfl, fun i o h => by simp at h⟩
  | [], o :: os, t, vs, t', hc => by exact (hc : False).elim
  | μ :: ms, o :: os, t, vs, t', hc => by
    obtain ⟨v, vs', rfl, hst, hc⟩ := hc
    obtain ⟨h1, h2⟩ := chain_getM hc
    have key : ∀ i, TDn (o :: os) (fun i => (v :: vs').getD i (.tup [])) t (fun _ => true) (i + 1) = TDn os (fun i => vs'.getD i (.tup [])) (putT t o.dst v) (fun _ => true) i := by
      intro i
      induction i with
      | zero => simp [TDn, putO]
      | succ i ih =>
        rw [TDn, ih]
        simp only [TDn, List.getElem?_cons_succ, List.getD_cons_succ]
    refine ⟨by rw [h1, List.length_cons, key], ?_⟩
    intro i o' ho
    cases i with
    | zero =>
      simp only [List.getElem?_cons_zero, Option.some.injEq] at ho
      subst ho
      exact ⟨μ, rfl, hst⟩
    | succ i =>
      rw [key]
      simp only [List.getElem?_cons_succ] at ho
      obtain ⟨μ', e, h3⟩ := h2 i o' ho
      exact ⟨μ', by simpa using e, h3⟩
end

section
variable {C : Cx} {L : List Oper} {k : List Item} {h h' : Heap} {m p s : Nat}
def hpD (h h' : Heap) (b : Bool) : Heap := match b with | true => h' | false => h
theorem any_quietM (hs0 : s < p) (ok : DrawOK p L) (hp : p ≤ L.length) (hokd : okOps C.N L = true) {V : Nat → AV} {t0 : List (Nat × AV)} (hstep : ∀ i o, i < p → L[i]? = some o → MOK C L k h h' m (modeOf L s i) o (TDn L V t0 (fun _ => true) i) (V i))
    (hend : ∀ ι S a w, Sim C.E C.N ⟨TDn L V t0 (fun _ => true) p, h', m⟩ ι S a w → At C L (L.drop p) k a w) : ∀ (fuel : Nat) (listed : Array Bool), listed.size = L.length → (∀ i, dOf listed i = true → ∀ j ∈ predsOf L i, dOf listed j = true) →
    (∀ i, dOf listed i = true → i < p) → fuel + cnt (dOf listed) L.length = L.length →
    ∀ ι S a w, Sim C.E C.N ⟨TDn L V t0 (dOf listed) p, hpD h h' (dOf listed s), m⟩ ι S a w → wpAnyIn C.F 0 C.P .any L.toArray (QN C k) fuel listed a w := by
  intro fuel
  induction fuel with
  | zero =>
    intro listed hsz hdown hlt hf ι S a w hs
    have hfull := cnt_full (n := L.length) (D := dOf listed) (by omega)
    have hpe : p = L.length := by
      rcases Nat.eq_or_lt_of_le hp with e | hl
      · exact e
      · have := hlt p (hfull p hl); omega
    have hsd : dOf listed s = true := hfull s (by omega)
    rw [hsd] at hs
    refine any_tail ok 0 listed p hsz (Nat.le_refl _) hp (fun i hi => ⟨fun h => hlt i h, fun h => hfull i hi⟩) (by omega) a w (hend ι S a w ?_)
    refine ⟨hs.mem, hs.tsz, fun x v hx => hs.tm x v ?_, hs.def0⟩
    rw [← hx]
    exact lk_TDn_congr x fun q hq _ => hfull q (by omega)
  | succ fuel ih =>
    intro listed hsz hdown hlt hf ι S a w hs
    by_cases hall : ∀ i, i < p → dOf listed i = true
    · -- all quiet ones are done
      have hsd : dOf listed s = true := hall s hs0
      rw [hsd] at hs
      have hcnt : cnt (dOf listed) L.length = p := by
        have key : ∀ n, cnt (dOf listed) n = if n ≤ p then n else p := by
          intro n
          induction n with
          | zero => simp [cnt]
          | succ n ihn =>
            simp only [cnt, ihn]
            by_cases hn : n < p
            · rw [hall n hn]
              simp only [if_true]
              rw [if_pos (by omega), if_pos (by omega)]
            · have : ¬ dOf listed n = true := fun h => hn (hlt n h)
              rw [if_neg this]
              split <;> split <;> omega
        rw [key]; split <;> omega
      refine any_tail ok (fuel + 1) listed p hsz (Nat.le_refl _) hp (fun i hi => ⟨fun h => hlt i h, fun h => hall i h⟩) (by omega) a w (hend ι S a w ?_)
      refine ⟨hs.mem, hs.tsz, fun x v hx => hs.tm x v ?_, hs.def0⟩
      rw [← hx]
      exact lk_TDn_congr x fun q hq _ => hall q hq
    · have hnot : ∃ q, q < p ∧ dOf listed q = false := by
        apply Classical.byContradiction
        intro hne
        apply hall
        intro i hi
        cases hd : dOf listed i with
        | true => rfl
        | false => exact absurd ⟨i, hi, hd⟩ hne
      have hleast : ∃ q, q < p ∧ dOf listed q = false ∧ ∀ j, j < q → dOf listed j = true := by
        obtain ⟨q, hq⟩ := hnot
        induction q using Nat.strongRecOn with
        | _ q ihq =>
          by_cases he : ∀ j, j < q → dOf listed j = true
          · exact ⟨q, hq.1, hq.2, he⟩
          · have : ∃ j, j < q ∧ dOf listed j = false := by
              apply Classical.byContradiction
              intro hne
              apply he
              intro j hj
              cases hd : dOf listed j with
              | true => rfl
              | false => exact absurd ⟨j, hj, hd⟩ hne
            obtain ⟨j, hj, hd⟩ := this
            exact ihq j hj ⟨by omega, hd⟩
      obtain ⟨q, hqp, hqD, hqb⟩ := hleast
      have hready : q ∈ Region.ready .any L.toArray listed := (ready_mem hsz).2 ⟨by omega, hqD, fun j hj => hqb j (ok.down q j (by omega) hj)⟩
      refine ⟨fun he => (by rw [he] at hready; cases hready), ?_⟩
      intro i hi
      obtain ⟨h1, h2, h3⟩ := (ready_mem hsz).1 hi
      have hip : i < p := by
        rcases Nat.lt_or_ge i p with hl | hge
        · exact hl
        · exfalso
          have := reach_sound (D := dOf listed) hdown 9 i q h3 (ok.tail i q h1 hge (by omega))
          rw [hqD] at this; cases this
      have hLi : L[i]? = some L[i] := List.getElem?_eq_getElem h1
      have hst := hstep i L[i] hip hLi
      have hd : ∀ d, L[i].dst = some d → d < C.N := okOps_mem hokd (List.getElem_mem h1)
      have pairs : ∀ j, j < p → ∀ x, ((x ∈ (L[i]).looksAt L.toArray ∨ (L[i]).dst = some x) ∧ dstAt L j = some x) → (j < i → j ∈ predsOf L i) ∧ (i < j → i ∈ predsOf L j) := by
        intro j hj x ⟨hx, hdx⟩
        have hjl : j < L.length := by omega
        have hLj : L[j]? = some L[j] := List.getElem?_eq_getElem hjl
        have hdj : L[j].dst = some x := by simpa [dstAt, hLj] using hdx
        constructor
        · intro hji
          have := ok.pair i j h1 hip hji
          simp only [pairOK, hLj, hLi, clash, hdj, Bool.or_eq_true, Bool.not_eq_true', List.contains_iff_mem, Bool.or_eq_false_iff] at this
          rcases this with ⟨⟨h4, h5⟩, _⟩ | h
          · rcases hx with hx | hx
            · have := List.contains_iff_mem.2 hx; rw [h4] at this; cases this
            · rw [hx] at h5; simp at h5
          · exact h
        · intro hij
          have := ok.pair j i hjl hj hij
          simp only [pairOK, hLj, hLi, clash, hdj, Bool.or_eq_true, Bool.not_eq_true', List.contains_iff_mem, Bool.or_eq_false_iff] at this
          rcases this with ⟨h4, h5⟩ | h
          · rcases hx with hx | hx
            · have := List.contains_iff_mem.2 hx; rw [h5] at this; cases this
            · rw [hx] at h4; simp at h4
          · exact h
      have hla : ∀ x ∈ (L[i]).looksAt L.toArray, lk x (TDn L V t0 (dOf listed) p) = lk x (TDn L V t0 (fun _ => true) i) := by
        intro x hx
        rw [lk_TDn_skip (dOf listed) x (i := i) (j := p) (by omega)]
        · refine lk_TDn_congr x fun j hj hdx => ?_
          exact h3 j ((pairs j (by omega) x ⟨.inl hx, hdx⟩).1 hj)
        · intro j hj1 hj2 hDj hdx
          rcases Nat.eq_or_lt_of_le hj1 with e | hlt'
          · subst e; rw [h2] at hDj; cases hDj
          · have := hdown j hDj i ((pairs j hj2 x ⟨.inl hx, hdx⟩).2 hlt')
            rw [h2] at this; cases this
      have hlisted : i < listed.size := by omega
      have hnext : ∀ ι' S' a' w', Sim C.E C.N ⟨putT (TDn L V t0 (dOf listed) p) L[i].dst (V i), hpD h h' (dOf (listed.setIfInBounds i true) s), m⟩ ι' S' a' w' → wpAnyIn C.F 0 C.P .any L.toArray (QN C k) fuel (listed.setIfInBounds i true) a' w' := by
        intro ι' S' a' w' hs'
        refine ih _ (by simpa using hsz) ?_ ?_ ?_ ι' S' a' w' ⟨hs'.mem, hs'.tsz, fun x v hx => hs'.tm x v ?_, hs'.def0⟩
        · intro i' hi' j hj
          rw [dOf_set hlisted] at hi' ⊢
          by_cases e : i' = i
          · subst e
            split
            · rfl
            · exact h3 j hj
          · rw [if_neg e] at hi'
            split
            · rfl
            · exact hdown i' hi' j hj
        · intro i' hi'
          rw [dOf_set hlisted] at hi'
          split at hi'
          · rename_i e; omega
          · exact hlt i' hi'
        · rw [cnt_set (D := dOf listed) (q := i) h1 h2 (by rw [dOf_set hlisted, if_pos rfl]) (fun j hj => by rw [dOf_set hlisted, if_neg hj])]
          omega
        · rw [← hx]
          have hput : lk x (putT (TDn L V t0 (dOf listed) p) L[i].dst (V i)) = if L[i].dst = some x then some (V i) else lk x (TDn L V t0 (dOf listed) p) := by
            cases hdd : L[i].dst with
            | none => simp [putT]
            | some d =>
              simp only [putT, lk_cons, Option.some.injEq]
              by_cases e : x = d
              · subst e; simp
              · rw [if_neg e, if_neg (fun h => e h.symm)]
          rw [hput]
          by_cases hdx : L[i].dst = some x
          · rw [if_pos hdx]
            rw [lk_TDn_skip (dOf (listed.setIfInBounds i true)) x (i := i + 1) (j := p) (by omega)]
            · rw [lk_TDn_succ, if_pos ⟨by rw [dOf_set hlisted, if_pos rfl], by simp [dstAt, hLi, hdx]⟩]
            · intro j hj1 hj2 hDj hdj
              rw [dOf_set hlisted, if_neg (by omega)] at hDj
              have := hdown j hDj i ((pairs j hj2 x ⟨.inr hdx, hdj⟩).2 (by omega))
              rw [h2] at this; cases this
          · rw [if_neg hdx]
            refine lk_TDn_congr x fun j hj hdj => ?_
            rw [dOf_set hlisted, if_neg]
            intro e; subst e
            simp only [dstAt, hLi, Option.bind_some] at hdj
            exact hdx hdj
      have hto : StepTo C L k (hpD h h' (dOf listed s)) (hpD h h' (dOf (listed.setIfInBounds i true) s)) m L[i] (TDn L V t0 (fun _ => true) i) (V i) := by
        rw [dOf_set hlisted]
        by_cases e : s = i
        · subst e
          rw [if_pos rfl, h2]
          exact hst.at3 (by simp [modeOf])
        · rw [if_neg e]
          have e' : (i == s) = false := by simp; exact fun h => e h.symm
          cases hds : dOf listed s with
          | true =>
            have hr : reach L 9 s i = false := by
              cases hr : reach L 9 s i with
              | false => rfl
              | true => have := reach_sound (D := dOf listed) hdown 9 s i (hdown s hds) hr
                        rw [h2] at this; cases this
            refine hst.back ?_
            cases hb : reach L 9 i s <;> simp [modeOf, e', hr, hb]
          | false =>
            have hr : reach L 9 i s = false := by
              cases hr : reach L 9 i s with
              | false => rfl
              | true => have := reach_sound (D := dOf listed) hdown 9 i s h3 hr
                        rw [hds] at this; cases this
            refine hst.fore ?_
            cases hb : reach L 9 s i <;> simp [modeOf, e', hr, hb]
      have hres := hto _ ι S a w hs (fun x hx z hz => by rw [hla x hx]; exact hz) hd (wpAnyIn C.F 0 C.P .any L.toArray (QN C k) fuel (listed.setIfInBounds i true)) hnext
      unfold wpOpIn
      simp only [List.getElem?_toArray, hLi]
      cases hw : Region.wanted L[i] (yielded L.toArray a.tmps) with
      | true => simp only [if_true]; exact wp_in (okOps_nd hokd (List.getElem_mem h1)) (hres.1 hw)
      | false => simp only [if_false, Bool.false_eq_true]; exact ⟨fun f _ => C.F_fn f, hres.2 hw⟩


/-- a region with one store that may come ahead of others or behind them -/
theorem ADr.introM {id : Nat} {σ : St} (p s fuel : Nat) (h' : Heap) (ms : List Nat) (hok : drawOK p L = true) (hms : modesOf L s p = ms) (hp : p ≤ L.length) (hs0 : s < p) (hv : VM C L fuel (L.drop p) k σ.h h' σ.n ms (L.take p) σ.t) : ADr C id L k σ := by
  intro okC hsuf hoks hki ι S a w hs
  rw [at_nil]
  have ok := drawOK_spec hok
  simp only [okItems, List.all_cons, Bool.and_eq_true, okItem, okCode] at hki
  obtain ⟨vs, t', hc, ha⟩ := VM_chain _ _ _ hv
  obtain ⟨h1, h2⟩ := chain_getM hc
  have hlen : (L.take p).length = p := by simp; omega
  rw [hlen, TDn_take _ _ _ _ p (Nat.le_refl _)] at h1
  refine goes_of_wpIn (wpIn_region_any okC.mixed ?_)
  have hsz : (Array.replicate L.length false).size = L.length := by simp
  have hdf : ∀ i, dOf (Array.replicate L.length false) i = false := by
    intro i
    simp only [dOf, Array.getD_eq_getD_getElem?]
    by_cases hi : i < L.length <;> simp [hi]
  have hq := any_quietM (C := C) (k := k) (h := σ.h) (h' := h') (m := σ.n) (s := s) hs0 ok hp hki.1 (V := fun i => vs.getD i (.tup [])) (t0 := σ.t)
    (fun i o hi ho => by
      obtain ⟨μ, hμ, hm⟩ := h2 i o (by rw [List.getElem?_take, if_pos hi]; exact ho)
      rw [TDn_take _ _ _ _ i (by omega)] at hm
      have : μ = modeOf L s i := by
        rw [← hms] at hμ
        simp only [modesOf, List.getElem?_map, List.getElem?_range hi, Option.map_some, Option.some.injEq] at hμ
        exact hμ.symm
      rw [← this]
      exact hm)
    (fun ι S a w hs => by
      rw [h1] at ha
      exact AWn_sound _ _ _ _ _ ha okC (List.drop_suffix _ _) hki.1 hki.2 ι S a w hs)
    L.length (Array.replicate L.length false) hsz (fun i hi => by rw [hdf] at hi; cases hi) (fun i hi => by rw [hdf] at hi; cases hi)
    (by
      have : cnt (dOf (Array.replicate L.length false)) L.length = 0 := by
        have key : ∀ n, cnt (dOf (Array.replicate L.length false)) n = 0 := by
          intro n
          induction n with
          | zero => rfl
          | succ n ih => simp [cnt, ih, hdf]
        exact key _
      omega) ι S a { w with drawn := w.drawn + 1 } (by
      have hs' := hs.quiet (Quiet.drew w)
      rw [hdf s]
      refine ⟨hs'.mem, hs'.tsz, fun x v hx => hs'.tm x v ?_, hs'.def0⟩
      rw [← hx]
      have key : ∀ n, lk x (TDn L (fun i => vs.getD i (.tup [])) σ.t (dOf (Array.replicate L.length false)) n) = lk x σ.t := by
        intro n
        exact lk_TDn_skip _ x (i := 0) (Nat.zero_le _) (fun q _ _ hq => by rw [hdf] at hq; cases hq)
      exact (key p).symm)
  simpa using hq
end
end Go.Fw

set_option linter.unusedVariables false
namespace Go.Fw
open Go

/-- what of a value's cells is compared, in order -/
def cmpL (P : Program) : Nat → TypeId → List Value → Option (List Value)
  | 0, _, _ => none
  | d + 1, t, cs => match P.underlying t, cs with
    | some .bool, [.bool b] => some [.bool b]
    | some (.int q), [.int q' n] => if q' = q then some [.int q n] else none
    | some .string, [.string s] => some [.string s]
    | some (.array n e), cs => if cs.length = P.cellsOf t ∧ (P.info? e).isSome = true then ((List.range n).mapM fun i => cmpL P d e ((cs.drop (i * P.cellsOf e)).take (P.cellsOf e))).map List.flatten else none
    | some (.struct fs), cs => if cs.length = P.cellsOf t ∧ fs.all (·.name != "_") = true ∧ P.stoodInHeld t = false then (fs.toList.mapM fun f => cmpL P d f.type ((cs.drop f.offset).take (P.cellsOf f.type))).map List.flatten else none
    | _, _ => none
def fitC (P : Program) (t : TypeId) (x : Value) : Prop := match P.underlying t with
  | some (.array _ _) => ∃ zs, x = .agg zs
  | some (.struct _) => ∃ zs, x = .agg zs
  | _ => x.cells.toList = [x]

section
variable {P : Program}
theorem cmpL_bool {d : Nat} {t : TypeId} {cs l : List Value} (hu : P.underlying t = some .bool) (h : cmpL P (d + 1) t cs = some l) : ∃ b, cs = [.bool b] ∧ l = [.bool b] := by
  unfold cmpL at h
  rw [hu] at h
  match cs, h with
  | [.bool b], h => exact ⟨b, rfl, by simpa using h.symm⟩
theorem cmpL_int {d : Nat} {t : TypeId} {q : IntKind} {cs l : List Value} (hu : P.underlying t = some (.int q)) (h : cmpL P (d + 1) t cs = some l) : ∃ n, cs = [.int q n] ∧ l = [.int q n] := by
  unfold cmpL at h
  rw [hu] at h
  match cs, h with
  | [.int q' n], h =>
    simp only at h
    split at h
    · rename_i e; subst e; exact ⟨n, rfl, by simpa using h.symm⟩
    · cases h
theorem cmpL_string {d : Nat} {t : TypeId} {cs l : List Value} (hu : P.underlying t = some .string) (h : cmpL P (d + 1) t cs = some l) : ∃ b, cs = [.string b] ∧ l = [.string b] := by
  unfold cmpL at h
  rw [hu] at h
  match cs, h with
  | [.string b], h => exact ⟨b, rfl, by simpa using h.symm⟩

def EqV (P : Program) (dd d : Nat) (t : TypeId) : Prop := ∀ (w : World) (x y : Value) (lx ly : List Value), fitC P t x → fitC P t y → cmpL P d t x.cells.toList = some lx → cmpL P d t y.cells.toList = some ly →
  lx.length = ly.length ∧ ∃ r : Bool, (Op.equalIn dd t x y).run P w = .ok r w ∧ (r = true ↔ lx = ly)

theorem part_c {w : World} {d off : Nat} {e : TypeId} {xs : Array Value} {la : List Value} (ha : cmpL P d e ((xs.toList.drop off).take (P.cellsOf e)) = some la) :
    ∃ a, (part e xs off).run P w = .ok a w ∧ fitC P e a ∧ a.cells.toList = (xs.toList.drop off).take (P.cellsOf e) := by
  cases d with
  | zero => simp [cmpL] at ha
  | succ d =>
    cases hu : P.underlying e with
    | none => simp [cmpL, hu] at ha
    | some kd =>
      have hl : (xs.extract off (off + P.cellsOf e)).toList = (xs.toList.drop off).take (P.cellsOf e) := by
        rw [Array.toList_extract]
        simp [List.extract]
      have plain : P.plainKey e = true → ∀ v, (xs.toList.drop off).take (P.cellsOf e) = [v] → v.cells.toList = [v] → ∃ a, (part e xs off).run P w = .ok a w ∧ fitC P e a ∧ a.cells.toList = (xs.toList.drop off).take (P.cellsOf e) := by
        intro hp v ev hv
        refine ⟨v, run_part_plain w hp (getElem?_of_chunk ev), ?_, by rw [ev, hv]⟩
        unfold fitC
        unfold Program.plainKey at hp
        rw [hu] at hp ⊢
        cases kd <;> simp at hp <;> exact hv
      cases kd
      case bool =>
        obtain ⟨b, e1, _⟩ := cmpL_bool hu ha
        exact plain (by simp [Program.plainKey, hu]) _ e1 rfl
      case int q =>
        obtain ⟨b, e1, _⟩ := cmpL_int hu ha
        exact plain (by simp [Program.plainKey, hu]) _ e1 rfl
      case string =>
        obtain ⟨b, e1, _⟩ := cmpL_string hu ha
        exact plain (by simp [Program.plainKey, hu]) _ e1 rfl
      case array n e' =>
        obtain ⟨i, hi⟩ := info_of_underlying hu
        refine ⟨.agg (xs.extract off (off + P.cellsOf e)), ?_, ?_, hl⟩
        · simp [part, isAgg, run_underlying hu, run_sizeOf w hi]
        · unfold fitC; rw [hu]; exact ⟨_, rfl⟩
      case struct fs =>
        obtain ⟨i, hi⟩ := info_of_underlying hu
        refine ⟨.agg (xs.extract off (off + P.cellsOf e)), ?_, ?_, hl⟩
        · simp [part, isAgg, run_underlying hu, run_sizeOf w hi]
        · unfold fitC; rw [hu]; exact ⟨_, rfl⟩
      all_goals (simp [cmpL, hu] at ha)

theorem app_iff {α : Type} {a b c d : List α} (h : a.length = b.length) : a ++ c = b ++ d ↔ a = b ∧ c = d := by
  constructor
  · intro e; exact List.append_inj e h
  · rintro ⟨rfl, rfl⟩; rfl

theorem step_c {dd d off : Nat} {e : TypeId} (IH : EqV P dd d e) (w : World) {xs ys : Array Value} {la lb : List Value}
    (ha : cmpL P d e ((xs.toList.drop off).take (P.cellsOf e)) = some la) (hb : cmpL P d e ((ys.toList.drop off).take (P.cellsOf e)) = some lb) :
    la.length = lb.length ∧ ∃ a b r, (part e xs off).run P w = .ok a w ∧ (part e ys off).run P w = .ok b w ∧ (Op.equalIn dd e a b).run P w = .ok r w ∧ (r = true ↔ la = lb) := by
  obtain ⟨a, p1, f1, c1⟩ := part_c (w := w) ha
  obtain ⟨b, p2, f2, c2⟩ := part_c (w := w) hb
  obtain ⟨hlen, r, hr, hiff⟩ := IH w a b la lb f1 f2 (by rw [c1]; exact ha) (by rw [c2]; exact hb)
  exact ⟨hlen, a, b, r, p1, p2, hr, hiff⟩

theorem fields_c (w : World) (dd d : Nat) (xs ys : Array Value) : ∀ (fs : List Field) (as bs : List (List Value)), (∀ f ∈ fs, f.name ≠ "_") → (∀ t, EqV P dd d t) →
    fs.mapM (fun f => cmpL P d f.type ((xs.toList.drop f.offset).take (P.cellsOf f.type))) = some as → fs.mapM (fun f => cmpL P d f.type ((ys.toList.drop f.offset).take (P.cellsOf f.type))) = some bs →
    as.flatten.length = bs.flatten.length ∧ ∃ r : Bool, (Op.eqFields dd xs ys fs).run P w = .ok r w ∧ (r = true ↔ as.flatten = bs.flatten)
  | [], as, bs, _, _, ha, hb => by
    simp at ha hb
    subst ha; subst hb
    exact ⟨rfl, true, by simp [Op.eqFields], by simp⟩
  | f :: fs, as, bs, hn, IH, ha, hb => by
    rw [List.mapM_cons] at ha hb
    simp only [bind, Option.bind_eq_some_iff, pure, Option.some.injEq] at ha hb
    obtain ⟨la, ha1, as', ha2, rfl⟩ := ha
    obtain ⟨lb, hb1, bs', hb2, rfl⟩ := hb
    obtain ⟨hlen, a, b, r, p1, p2, p3, hiff⟩ := step_c (IH f.type) w ha1 hb1
    obtain ⟨hlen', r', hr', hiff'⟩ := fields_c w dd d xs ys fs as' bs' (fun g hg => hn g (by simp [hg])) IH ha2 hb2
    refine ⟨by simp only [List.flatten_cons, List.length_append]; omega, ?_⟩
    simp only [Op.eqFields, hn f (by simp), ne_eq, not_false_eq_true, if_true, Sem.run_bind, p1, p2, p3, Result.andThen_ok, List.flatten_cons, app_iff hlen]
    cases r
    · exact ⟨false, by simp, by simp; intro e; exact absurd (hiff.2 e) (by simp)⟩
    · refine ⟨r', by simpa using hr', ?_⟩
      rw [hiff']
      simp [hiff.1 rfl]

theorem items_c (w : World) (dd d : Nat) {e : TypeId} (IH : EqV P dd d e) (xs ys : Array Value) : ∀ (is : List Nat) (as bs : List (List Value)),
    is.mapM (fun i => cmpL P d e ((xs.toList.drop (i * P.cellsOf e)).take (P.cellsOf e))) = some as → is.mapM (fun i => cmpL P d e ((ys.toList.drop (i * P.cellsOf e)).take (P.cellsOf e))) = some bs →
    as.flatten.length = bs.flatten.length ∧ ∃ r : Bool, (Op.eqItems dd e (P.cellsOf e) xs ys is).run P w = .ok r w ∧ (r = true ↔ as.flatten = bs.flatten)
  | [], as, bs, ha, hb => by
    simp at ha hb
    subst ha; subst hb
    exact ⟨rfl, true, by simp [Op.eqItems], by simp⟩
  | i :: is, as, bs, ha, hb => by
    rw [List.mapM_cons] at ha hb
    simp only [bind, Option.bind_eq_some_iff, pure, Option.some.injEq] at ha hb
    obtain ⟨la, ha1, as', ha2, rfl⟩ := ha
    obtain ⟨lb, hb1, bs', hb2, rfl⟩ := hb
    obtain ⟨hlen, a, b, r, p1, p2, p3, hiff⟩ := step_c IH w ha1 hb1
    obtain ⟨hlen', r', hr', hiff'⟩ := items_c w dd d IH xs ys is as' bs' ha2 hb2
    refine ⟨by simp only [List.flatten_cons, List.length_append]; omega, ?_⟩
    simp only [Op.eqItems, Sem.run_bind, p1, p2, p3, Result.andThen_ok, List.flatten_cons, app_iff hlen]
    cases r
    · exact ⟨false, by simp, by simp; intro e; exact absurd (hiff.2 e) (by simp)⟩
    · refine ⟨r', by simpa using hr', ?_⟩
      rw [hiff']
      simp [hiff.1 rfl]

theorem equalIn_c : ∀ (d dd : Nat) (t : TypeId), d ≤ dd → EqV P dd d t
  | 0, _, t, _ => by intro w x y lx ly _ _ hx; simp [cmpL] at hx
  | d + 1, 0, t, h => by omega
  | d + 1, dd + 1, t, hdd => by
    intro w x y lx ly fx fy hx hy
    have IH : ∀ t, EqV P dd d t := fun t => equalIn_c d dd t (by omega)
    cases hu : P.underlying t with
    | none => simp [cmpL, hu] at hx
    | some kd =>
      cases kd
      case bool =>
        simp only [fitC, hu] at fx fy
        rw [fx] at hx; rw [fy] at hy
        obtain ⟨a, e1, rfl⟩ := cmpL_bool hu hx
        obtain ⟨b, e2, rfl⟩ := cmpL_bool hu hy
        cases e1; cases e2
        exact ⟨rfl, a == b, run_equalIn_bool' w dd t a b hu, by simp⟩
      case int q =>
        simp only [fitC, hu] at fx fy
        rw [fx] at hx; rw [fy] at hy
        obtain ⟨a, e1, rfl⟩ := cmpL_int hu hx
        obtain ⟨b, e2, rfl⟩ := cmpL_int hu hy
        cases e1; cases e2
        exact ⟨rfl, a == b, run_equalIn_int w dd t q q a b hu, by simp⟩
      case string =>
        simp only [fitC, hu] at fx fy
        rw [fx] at hx; rw [fy] at hy
        obtain ⟨a, e1, rfl⟩ := cmpL_string hu hx
        obtain ⟨b, e2, rfl⟩ := cmpL_string hu hy
        cases e1; cases e2
        refine ⟨rfl, a.toList == b.toList, run_equalIn_string w dd t a b hu, ?_⟩
        simp only [beq_iff_eq, ByteArray.toList_eq, List.cons.injEq, Value.string.injEq, and_true]
        constructor
        · intro h
          obtain ⟨⟨x⟩⟩ := a
          obtain ⟨⟨y⟩⟩ := b
          simp only at h
          rw [h]
        · rintro rfl; rfl
      case array n e =>
        simp only [fitC, hu] at fx fy
        obtain ⟨xs, rfl⟩ := fx
        obtain ⟨ys, rfl⟩ := fy
        simp only [cmpL, hu, Value.cells] at hx hy
        split at hx
        · rename_i hc
          split at hy
          · simp only [Option.map_eq_some_iff] at hx hy
            obtain ⟨as, ha, rfl⟩ := hx
            obtain ⟨bs, hb, rfl⟩ := hy
            obtain ⟨hlen, r, hr, hiff⟩ := items_c w dd d (IH e) xs ys (List.range n) as bs ha hb
            obtain ⟨i, hi⟩ := Option.isSome_iff_exists.1 hc.2
            exact ⟨hlen, r, by rw [run_equalIn_array w dd xs ys hu hi]; exact hr, hiff⟩
          · cases hy
        · cases hx
      case struct fs =>
        simp only [fitC, hu] at fx fy
        obtain ⟨xs, rfl⟩ := fx
        obtain ⟨ys, rfl⟩ := fy
        simp only [cmpL, hu, Value.cells] at hx hy
        split at hx
        · rename_i hc
          split at hy
          · simp only [Option.map_eq_some_iff] at hx hy
            obtain ⟨as, ha, rfl⟩ := hx
            obtain ⟨bs, hb, rfl⟩ := hy
            have hfs : P.fieldsOf t = fs := by simp [Program.fieldsOf, hu]
            obtain ⟨hlen, r, hr, hiff⟩ := fields_c w dd d xs ys fs.toList as bs (fun f hf => by
              have := Array.all_eq_true_iff_forall_mem.1 hc.2.1 f (Array.mem_toList_iff.1 hf)
              simpa using this) IH ha hb
            exact ⟨hlen, r, by rw [run_equalIn_struct w dd t xs ys (by rw [hfs]; exact hu) hc.2.2, hfs]; exact hr, hiff⟩
          · cases hy
        · cases hx
      all_goals (simp [cmpL, hu] at hx)
end

def valsAs : List AV → Option (List Value)
  | [] => some []
  | .f (.v x) :: l => (valsAs l).map (x :: ·)
  | _ :: _ => none
def valsFs : List FV → Option (List Value)
  | [] => some []
  | .v x :: l => (valsFs l).map (x :: ·)
  | _ :: _ => none
/-- the cells of a struct or an array, if they are plain -/
def valsA : AV → Option (List Value)
  | .agg xs => valsAs xs
  | .f (.agg xs) => valsFs xs
  | _ => none
theorem valsAs_sound {S : Nat → Prop} {ι : Nat → Loc} {n : Nat} {w : World} : ∀ {l : List AV} {vs ys : List Value}, valsAs l = some vs → VRs S ι n w l ys → ys = vs
  | [], vs, ys, h, hv => by simp only [valsAs, Option.some.injEq] at h; simp only [VRs] at hv; rw [hv, h]
  | .f (.v x) :: l, vs, ys, h, hv => by
    simp only [valsAs, Option.map_eq_some_iff] at h
    obtain ⟨vs', h1, rfl⟩ := h
    simp only [VRs, VR, FR] at hv
    obtain ⟨y, ys', rfl, ⟨rfl, _⟩, h2⟩ := hv
    rw [valsAs_sound h1 h2]
  | .f (.agg _) :: l, vs, ys, h, hv => by simp [valsAs] at h
  | .f (.tup _) :: l, vs, ys, h, hv => by simp [valsAs] at h
  | .f (.sl _ _) :: l, vs, ys, h, hv => by simp [valsAs] at h
  | .f (.p _ _) :: l, vs, ys, h, hv => by simp [valsAs] at h
  | .f (.m _) :: l, vs, ys, h, hv => by simp [valsAs] at h
  | .f (.clo _ _ _) :: l, vs, ys, h, hv => by simp [valsAs] at h
  | .agg _ :: l, vs, ys, h, hv => by simp [valsAs] at h
  | .tup _ :: l, vs, ys, h, hv => by simp [valsAs] at h
  | .ptr _ _ :: l, vs, ys, h, hv => by simp [valsAs] at h
  | .rp _ _ _ _ :: l, vs, ys, h, hv => by simp [valsAs] at h
  | .sl _ _ _ _ :: l, vs, ys, h, hv => by simp [valsAs] at h
  | .mp _ :: l, vs, ys, h, hv => by simp [valsAs] at h
  | .it _ :: l, vs, ys, h, hv => by simp [valsAs] at h
  | .clo _ _ _ :: l, vs, ys, h, hv => by simp [valsAs] at h
  | .g _ :: l, vs, ys, h, hv => by simp [valsAs] at h
theorem valsFs_sound {S : Nat → Prop} {w : World} : ∀ {l : List FV} {vs ys : List Value}, valsFs l = some vs → FRs S w l ys → ys = vs
  | [], vs, ys, h, hv => by simp only [valsFs, Option.some.injEq] at h; simp only [FRs] at hv; rw [hv, h]
  | .v x :: l, vs, ys, h, hv => by
    simp only [valsFs, Option.map_eq_some_iff] at h
    obtain ⟨vs', h1, rfl⟩ := h
    simp only [FRs, FR] at hv
    obtain ⟨y, ys', rfl, ⟨rfl, _⟩, h2⟩ := hv
    rw [valsFs_sound h1 h2]
  | .agg _ :: l, vs, ys, h, hv => by simp [valsFs] at h
  | .tup _ :: l, vs, ys, h, hv => by simp [valsFs] at h
  | .sl _ _ :: l, vs, ys, h, hv => by simp [valsFs] at h
  | .p _ _ :: l, vs, ys, h, hv => by simp [valsFs] at h
  | .m _ :: l, vs, ys, h, hv => by simp [valsFs] at h
  | .clo _ _ _ :: l, vs, ys, h, hv => by simp [valsFs] at h
theorem valsA_sound {S : Nat → Prop} {ι : Nat → Loc} {n : Nat} {w : World} {x : AV} {vs : List Value} {y : Value} (h : valsA x = some vs) (hv : VR S ι n w x y) : y = .agg vs.toArray := by
  unfold valsA at h
  split at h
  · simp only [VR] at hv
    obtain ⟨ys, rfl, h1, _⟩ := hv
    rw [← valsAs_sound h h1]
  · simp only [VR, FR] at hv
    obtain ⟨ys, rfl, h1, _⟩ := hv
    rw [← valsFs_sound h h1]
  · cases h

def isAggT (P : Program) (t : TypeId) : Bool := match P.underlying t with
  | some (.array _ _) => true
  | some (.struct _) => true
  | _ => false
theorem run_cmp {P : Program} {w : World} {o : Oper} {a : Act} {neq : Bool} {T U : TypeId} {x y : Operand} {xs ys lx ly : List Value} {d : Nat} {b : Bool} (ho : o.op = .binOp (bif neq then .neq else .eql) T x y U)
    (e1 : a.eval x = .agg xs.toArray) (e2 : a.eval y = .agg ys.toArray) (hm : P.eqGuardType P.depth T = false) (hagg : isAggT P T = true) (hd : d ≤ 10000) (hx : cmpL P d T xs = some lx) (hy : cmpL P d T ys = some ly) (hb : b = true ↔ lx = ly) :
    (execOp a.eval o).run P w = .ok (.value (.bool (bif neq then !b else b))) w := by
  have fit : ∀ zs : List Value, fitC P T (.agg zs.toArray) := by
    intro zs
    unfold fitC isAggT at *
    split at hagg
    · exact ⟨_, rfl⟩
    · exact ⟨_, rfl⟩
    · cases hagg
  obtain ⟨_, r, hr, hiff⟩ := equalIn_c d 10000 T hd w (.agg xs.toArray) (.agg ys.toArray) lx ly (fit _) (fit _) (by simpa [Value.cells] using hx) (by simpa [Value.cells] using hy)
  have hrb : r = b := by
    cases r <;> cases b <;> simp_all
  subst hrb
  cases neq
  · simp only [cond_false] at ho ⊢
    simp [execOp, ho, e1, e2, run_eqGuard_agg w .eql T x y xs.toArray ys.toArray hm, run_eql_struct, hr]
  · simp only [cond_true] at ho ⊢
    simp [execOp, ho, e1, e2, run_eqGuard_agg w .neq T x y xs.toArray ys.toArray hm, run_neq_struct, hr]

section
variable {C : Cx} {n : Nat} {all os : List Oper} {o : Oper} {k : List Item} {σ : St}
/-- two structs held against one another -/
theorem AW.cmp (neq b : Bool) (d : Nat) {T U : TypeId} {x y : Operand} {X Y : AV} {xs ys lx ly : List Value} (hgd : o.guard = none) (ho : o.op = .binOp (bif neq then .neq else .eql) T x y U) (hx : ev σ x = some (true, X)) (hy : ev σ y = some (true, Y))
    (vx : valsA X = some xs) (vy : valsA Y = some ys) (hm : C.P.eqGuardType C.P.depth T = false) (hagg : isAggT C.P T = true) (hd : d ≤ 10000) (cx : cmpL C.P d T xs = some lx) (cy : cmpL C.P d T ys = some ly) (hb : b = true ↔ lx = ly)
    (hk : AWn C n all os k (σ.put o.dst (.s (.bool (bif neq then !b else b))))) : AW C all (o :: os) k σ := by
  refine AW.op _ hgd (fun ι S a w hs => ?_) hk
  have e1 := valsA_sound vx (ev_sound hs hx rfl)
  have e2 := valsA_sound vy (ev_sound hs hy rfl)
  exact .same hs (run_cmp ho e1 e2 hm hagg hd cx cy hb) (mk_v rfl)
theorem step_cmp (neq b : Bool) (d : Nat) {L : List Oper} {h : Heap} {m : Nat} {t : List (Nat × AV)} {c : Bool} {T U : TypeId} {x y : Operand} {X Y : AV} {xs ys lx ly : List Value} (hg : guardOf L ⟨pickT t (o.looksAt L.toArray), h, m⟩ o.guard = some c) (ho : o.op = .binOp (bif neq then .neq else .eql) T x y U)
    (hx : ev ⟨pickT t (o.looksAt L.toArray), h, m⟩ x = some (true, X)) (hy : ev ⟨pickT t (o.looksAt L.toArray), h, m⟩ y = some (true, Y))
    (vx : valsA X = some xs) (vy : valsA Y = some ys) (hm : C.P.eqGuardType C.P.depth T = false) (hagg : isAggT C.P T = true) (hd : d ≤ 10000) (cx : cmpL C.P d T xs = some lx) (cy : cmpL C.P d T ys = some ly) (hb : b = true ↔ lx = ly) :
    StepOK C L k h m o t (mkg c (.s (.bool (bif neq then !b else b)))) := by
  intro u ι S a w hs hl hdst next hnext
  have hp := sim_pick hs hl
  have hw := guard_sound (C := C) hp hg
  rw [hw]
  constructor
  · rintro rfl
    have e1 := valsA_sound vx (ev_sound hp hx rfl)
    have e2 := valsA_sound vy (ev_sound hp hy rfl)
    have hrun := run_cmp (w := w) ho e1 e2 hm hagg hd cx cy hb
    unfold Oper.wp
    rw [hrun, Oper.upon_value]
    refine hnext ι S _ w ?_
    rw [← put_putT]
    exact hs.put hdst (mk_v rfl)
  · rintro rfl
    refine hnext ι S _ w ?_
    rw [← put_putT]
    exact put_false hs hdst _
end
end Go.Fw

set_option linter.unusedVariables false
namespace Go.Fw
open Go

/-- a later base E' of E, some blocks left out -/
structure Ext (E E' : Ent) (bad : List Nat) : Prop where
  size : E.w.heap.size ≤ E'.w.heap.size
  os : E'.w.os = E.w.os
  tape : E'.w.tape = E.w.tape
  output : E'.w.output = E.w.output
  keep : ∀ b, b < E.w.heap.size → ¬ E.own b → E'.w.heap[b]? = E.w.heap[b]?
  own : ∀ b, E'.own b → (E.own b ∨ E.w.heap.size ≤ b) ∧ ¬ E'.S b ∧ b ∉ bad
  ssub : ∀ b, E'.S b → E.S b ∨ (E.own b ∨ E.w.heap.size ≤ b)
  ssup : ∀ b, E.S b → E'.S b
  bad : ∀ b ∈ bad, E.w.heap.size ≤ b ∧ b < E'.w.heap.size ∧ ¬ E'.S b
  names : E.n ≤ E'.n
  same : ∀ id, id < E.n → E'.ι id = E.ι id

section
variable {E E' : Ent} {bad : List Nat} {h : Heap} {n : Nat} {ι : Nat → Loc} {S : Nat → Prop} {w w2 : World}

theorem Ext.free (x : Ext E E' bad) (hm : Mem E' h n ι S w) {b : Nat} (hb : b ∈ bad) : ¬ S b ∧ ∀ id o, lk id h = some o → (ι id).b ≠ some b := by
  obtain ⟨h1, h2, h3⟩ := x.bad b hb
  refine ⟨fun hS => ?_, fun id o hl e => ?_⟩
  · rcases hm.ssub b hS with h | h | h
    · exact h3 h
    · exact (x.own b h).2.2 hb
    · omega
  · rcases (hm.own id o b hl e).2.2 with h | h
    · exact (x.own b h).2.2 hb
    · omega
theorem Ext.still (x : Ext E E' bad) (hm : Mem E' h n ι S w) {b : Nat} (hb : b ∈ bad) : w.heap[b]? = E'.w.heap[b]? :=
  hm.keep b (x.bad b hb).2.1 fun ho => (x.own b ho).2.2 hb

structure Same (bad : List Nat) (w w2 : World) : Prop where
  heap : ∀ b, b ∉ bad → w2.heap[b]? = w.heap[b]?
  size : w2.heap.size = w.heap.size
  os : w2.os = w.os
  tape : w2.tape = w.tape
  output : w2.output = w.output
theorem Same.refl (bad : List Nat) (w : World) : Same bad w w := ⟨fun _ _ => rfl, rfl, rfl, rfl, rfl⟩
theorem Same.put {bad : List Nat} {w : World} {r : Nat} (o : Obj) (hr : r ∈ bad) : Same bad w (w.putObj r o) :=
  ⟨fun b hb => World.putObj_heap_other fun e => hb (e ▸ hr), World.putObj_size, rfl, rfl, rfl⟩

theorem Mem.back (x : Ext E E' bad) (hm : Mem E' h n ι S w) (q : Same bad w w2) : Mem E h n ι S w2 where
  obj id o hl := ⟨(hm.obj id o hl).1, (hm.obj id o hl).2.mono (fun _ h => h) (fun b hb => q.heap b fun hbad => (x.free hm hbad).1 hb) (Nat.le_refl _) (fun _ _ => rfl) (fun b hb => q.heap b fun hbad => (x.free hm hbad).2 id o hl hb)⟩
  own id o b hl hb := by
    obtain ⟨h1, h2, h3⟩ := hm.own id o b hl hb
    refine ⟨by rw [q.size]; exact h1, h2, ?_⟩
    rcases h3 with h | h
    · exact (x.own b h).1
    · exact .inr (Nat.le_trans x.size h)
  inj := hm.inj
  slt b hb := by rw [q.size]; exact hm.slt b hb
  ssub b hb := by
    rcases hm.ssub b hb with h | h | h
    · exact x.ssub b h
    · exact .inr (x.own b h).1
    · exact .inr (.inr (Nat.le_trans x.size h))
  ssup b hb := hm.ssup b (x.ssup b hb)
  keep b hb hno := by
    have hbad : b ∉ bad := fun hb' => absurd (x.bad b hb').1 (Nat.not_le.2 hb)
    rw [q.heap b hbad, hm.keep b (Nat.lt_of_lt_of_le hb x.size) fun ho => (x.own b ho).1.elim hno fun h => absurd h (Nat.not_le.2 hb), x.keep b hb hno]
  size := by rw [q.size]; exact Nat.le_trans x.size hm.size
  os := by rw [q.os, hm.os, x.os]
  tape := by rw [q.tape, hm.tape, x.tape]
  output := by rw [q.output, hm.output, x.output]
  names := Nat.le_trans x.names hm.names
  same id hid := by rw [hm.same id (Nat.lt_of_lt_of_le hid x.names), x.same id hid]

theorem VR.same {v : AV} {y : Value} (q : Same bad w w2) (hS : ∀ b ∈ bad, ¬ S b) (hv : VR S ι n w v y) : VR S ι n w2 v y :=
  hv.mono (fun _ h => h) (fun b hb => q.heap b fun hbad => hS b hbad hb) (Nat.le_refl _) (fun _ _ => rfl)

def baseE (E : Ent) (ι : Nat → Loc) (S : Nat → Prop) (w : World) (m : Nat) (bad : List Nat) (defs : List Deferred) : Ent :=
  { w := w, ι := ι, n := m, own := fun b => (E.own b ∨ E.w.heap.size ≤ b) ∧ ¬ S b ∧ b ∉ bad, S := S, defs := defs }

theorem Mem.base (hm : Mem E h n ι S w) (m : Nat) (bad : List Nat) (defs : List Deferred) (h1 : E.n ≤ m) (h2 : m ≤ n) (hbad : ∀ b ∈ bad, E.w.heap.size ≤ b ∧ b < w.heap.size ∧ ¬ S b ∧ ∀ id o, lk id h = some o → (ι id).b ≠ some b) :
    Ext E (baseE E ι S w m bad defs) bad ∧ Mem (baseE E ι S w m bad defs) h n ι S w :=
  ⟨{ size := hm.size, os := hm.os, tape := hm.tape, output := hm.output, keep := hm.keep, own := fun b h => h, ssub := hm.ssub, ssup := hm.ssup, bad := fun b hb => ⟨(hbad b hb).1, (hbad b hb).2.1, (hbad b hb).2.2.1⟩, names := h1, same := hm.same },
   { obj := hm.obj
     own := fun id o b hl hb => by
       obtain ⟨a1, a2, a3⟩ := hm.own id o b hl hb
       exact ⟨a1, a2, .inl ⟨a3, a2, fun hbb => (hbad b hbb).2.2.2 id o hl hb⟩⟩
     inj := hm.inj
     slt := hm.slt
     ssub := fun b hb => .inl hb
     ssup := fun b hb => hb
     keep := fun b _ _ => rfl
     size := Nat.le_refl _
     os := rfl
     tape := rfl
     output := rfl
     names := h2
     same := fun _ _ => rfl }⟩
theorem Ext.rebad (x : Ext E E' bad) (hm : Mem E' h n ι S w) (q : Same bad w w2) : ∀ b ∈ bad, E.w.heap.size ≤ b ∧ b < w2.heap.size ∧ ¬ S b ∧ ∀ id o, lk id h = some o → (ι id).b ≠ some b :=
  fun b hb => ⟨(x.bad b hb).1, by rw [q.size]; exact Nat.lt_of_lt_of_le (x.bad b hb).2.1 hm.size, (x.free hm hb).1, (x.free hm hb).2⟩
/-- a value told at a base holds on -/
theorem VR.on (hm : Mem E h n ι S w) (hS : ∀ b, E.S b → b < E.w.heap.size ∧ ¬ E.own b) {v : AV} {y : Value} (hv : VR E.S E.ι E.n E.w v y) : VR S ι n w v y :=
  hv.mono hm.ssup (fun b hb => hm.keep b (hS b hb).1 (hS b hb).2) hm.names hm.same
end

/-- the mark of a loop -/
def mark (D : Nat) : Deferred := { target := .collected D, args := #[] }
section
variable {C : Cx} {E' : Ent} {l D : Nat}
/-- behind a loop: the mark goes at the function's end -/
theorem Cx.Ok.after (ok : C.Ok) (hro : C.ro = none) (x : Ext C.E E' [l, D]) (hd : E'.defs = mark D :: C.E.defs) (hD : E'.w.heap[D]? = some (.deferred (some []))) : Cx.Ok { C with E := E' } where
  fn := ok.fn
  mixed := ok.mixed
  fin := by
    intro _ σ ι S a w hs hret b cs todo h1 h2 h3
    have hmem : D ∈ [l, D] := by simp
    have hw : w.heap[D]? = some (.deferred (some [])) := by rw [x.still hs.mem hmem]; exact hD
    have q : Same [l, D] w (w.putObj D (.deferred none)) := .put _ hmem
    have hsb : Sim C.E C.N σ ι S { a with defers := C.E.defs } (w.putObj D (.deferred none)) :=
      ⟨hs.mem.back x q, hs.tsz, fun t v hl => (hs.tm t v hl).same q fun b hb => (x.free hs.mem hb).1, rfl⟩
    obtain ⟨v, w', fr, hΦ, hst, hfn, hl⟩ := ok.fin hro σ ι S _ _ hsb hret b cs todo h1 h2 h3
    have hdef : a.defers = mark D :: C.E.defs := by rw [hs.def0]; exact hd
    have hstep := step_collected (P := C.P) (fr := { b.atR a todo with mode := .returning }) (cs := cs) (w := w) (d := mark D) (r := D) (ds := C.E.defs) (by simp) hdef rfl (run_takeDeferred hw)
    exact ⟨v, w', fr, hΦ, .head hstep hst, hfn, hl⟩
  finR := fun h => absurd hro h
end

/-- what the record of a loop holds -/
def recOf (C : Cx) (ps : Array Tmp) (assign body : Code) (a : Act) (D : Nat) (st : LoopState) (pend : Option Code) : Loop :=
  { state := st, pending := pend, fn := C.f, tmps := a.tmps, params := ps, assign := assign, body := body, defers := D }
def stOf (pend : Option Code) : LoopState := if pend.isNone then .ready else .done

/-- an iterator's base, beside its caller -/
structure ItE (C : Cx) (ps : Array Tmp) (assign body : Code) (T : List (Nat × AV)) (a : Act) (m l D : Nat) (pend : Option Code) (E : Ent) : Prop where
  ext : Ext C.E E [l, D]
  n : E.n = m
  defs : E.defs = []
  live : ∀ b, E.S b → b < E.w.heap.size ∧ ¬ E.own b
  tm : ∀ t v, lk t T = some v → VR E.S E.ι E.n E.w v (a.tmps.getD t undef)
  rcd : E.w.heap[l]? = some (.loop (recOf C ps assign body a D (stOf pend) pend))
  dfr : E.w.heap[D]? = some (.deferred (some []))
  ne : l ≠ D
def PhiIt (C : Cx) (k : List Item) (a : Act) (l D : Nat) (_ : Value) (w' : World) : Prop :=
  ∃ jump w4, (Instr.endLoop l).run C.P w' = .ok jump w4 ∧ Goes C ((jump.map Item.code).toList ++ k) { a with defers := mark D :: a.defers } w4
def RIT (C : Cx) (k : List Item) (T : List (Nat × AV)) (fuel : Nat) (pend : Option Code) (_ : AV) (σ' : St) : Prop :=
  ∀ E', E'.n = C.E.n → AWn { C with E := E' } fuel [] [] ((pend.map Item.code).toList ++ k) ⟨T, σ'.h, σ'.n⟩
/-- what stands fast about a loop that is under way -/
structure LoopG (C : Cx) (ps : Array Tmp) (assign body : Code) (k : List Item) (T : List (Nat × AV)) (m : Nat) (a : Act) (l D : Nat) : Prop where
  ok : C.Ok
  ro : C.ro = none
  tsz : a.tmps.size = C.N
  defs : a.defers = C.E.defs
  okk : okItems C.N k = true
  oka : okCode C.N assign = true
  okb : okCode C.N body = true
  em : C.E.n ≤ m

theorem jmp_ok {N : Nat} {k : List Item} (hk : okItems N k = true) : ∀ {pend : Option Code}, jOK pend = true → okItems N ((pend.map Item.code).toList ++ k) = true
  | none, _ => hk
  | some c, h => by
    cases c <;> simp [jOK] at h
    all_goals
      simp only [Option.map_some, Option.toList_some, List.cons_append, List.nil_append, okItems, List.all_cons, okItem, okCode, Bool.true_and]
      exact hk
theorem stOf_busy (pend : Option Code) : stOf pend ≠ .busy := by unfold stOf; split <;> simp

section
variable {C : Cx} {ps : Array Tmp} {assign body : Code} {k : List Item} {T : List (Nat × AV)} {a : Act} {m l D : Nat} {pend : Option Code} {E : Ent}

/-- an iterator's end: the caller goes on -/
theorem it_end {fuel : Nat} (g : LoopG C ps assign body k T m a l D) (it : ItE C ps assign body T a m l D pend E) (hp : jOK pend = true) {h : Heap} {n : Nat} {ι : Nat → Loc} {S : Nat → Prop} {w' : World} (av : AV) (hm : Mem E h n ι S w')
    (hr : RIT C k T fuel pend av ⟨[], h, n⟩) (v : Value) : PhiIt C k a l D v w' := by
  have ml : l ∈ [l, D] := by simp
  have mD : D ∈ [l, D] := by simp
  have hrec : w'.heap[l]? = some (.loop (recOf C ps assign body a D (stOf pend) pend)) := by rw [it.ext.still hm ml]; exact it.rcd
  have hdfr : w'.heap[D]? = some (.deferred (some [])) := by rw [it.ext.still hm mD]; exact it.dfr
  refine ⟨pend, _, run_endLoop hrec (stOf_busy _), ?_⟩
  generalize hw4 : w'.putObj l (.loop { recOf C ps assign body a D (stOf pend) pend with state := .exhausted }) = w4
  have q : Same [l, D] w' w4 := by rw [← hw4]; exact .put _ ml
  have hm4 : Mem C.E h n ι S w4 := hm.back it.ext q
  obtain ⟨x, hm5⟩ := hm4.base C.E.n [l, D] (mark D :: C.E.defs) (Nat.le_refl _) hm4.names (it.ext.rebad hm q)
  have hd4 : w4.heap[D]? = some (.deferred (some [])) := by
    rw [← hw4, World.putObj_heap_other (fun e => it.ne e.symm)]; exact hdfr
  have ok' := Cx.Ok.after g.ok g.ro x rfl hd4
  have hs : Sim (baseE C.E ι S w4 C.E.n [l, D] (mark D :: C.E.defs)) C.N ⟨T, h, n⟩ ι S { a with defers := mark D :: a.defers } w4 :=
    ⟨hm5, g.tsz, fun t v hl => ((it.tm t v hl).on hm it.live).same q fun b hb => (it.ext.free hm hb).1, by show mark D :: a.defers = _; rw [g.defs]; rfl⟩
  exact at_nil.1 (AWn_sound (C := { C with E := baseE C.E ι S w4 C.E.n [l, D] (mark D :: C.E.defs) }) _ _ _ _ _ (hr _ rfl) ok' (List.suffix_refl _) rfl (jmp_ok g.okk hp) ι S _ w4 hs)

/-- the iterator's context holds its word -/
theorem it_ok {fuel : Nat} {fi : FuncId} {fni : Func} (g : LoopG C ps assign body k T m a l D) (it : ItE C ps assign body T a m l D pend E) (hp : jOK pend = true) (hfi : C.P.funcs[fi]? = some fni) (Ψ : Option Code → World → Prop) :
    Cx.Ok ⟨C.P, fi, fni.ntmps, fni.results.toList, E, RIT C k T fuel pend, none, PhiIt C k a l D, Ψ⟩ :=
  Cx.Ok.plain (C := ⟨C.P, fi, fni.ntmps, fni.results.toList, E, RIT C k T fuel pend, none, PhiIt C k a l D, Ψ⟩) hfi rfl g.ok.mixed rfl it.defs fun v w' hF => by
    obtain ⟨av, h, n, ι, S, hr, hm, _⟩ := hF
    exact it_end g it hp av hm hr v
end

/-- a loop that is under way, and who goes through it -/
def ItG (C : Cx) (ps : Array Tmp) (assign body : Code) (k : List Item) (T : List (Nat × AV)) (m fuel : Nat) (l : Nat) (pend : Option Code) (Ci : Cx) : Prop :=
  ∃ a D fni, LoopG C ps assign body k T m a l D ∧ ItE C ps assign body T a m l D pend Ci.E ∧ jOK pend = true ∧ C.P.funcs[Ci.f]? = some fni ∧
    Ci.P = C.P ∧ Ci.N = fni.ntmps ∧ Ci.res = fni.results.toList ∧ Ci.R = RIT C k T fuel pend ∧ Ci.ro = none ∧ Ci.Φ = PhiIt C k a l D
theorem ItG.ok {C : Cx} {ps : Array Tmp} {assign body : Code} {k : List Item} {T : List (Nat × AV)} {m fuel l : Nat} {pend : Option Code} {Ci : Cx} (h : ItG C ps assign body k T m fuel l pend Ci) : Ci.Ok := by
  obtain ⟨a, D, fni, g, it, hp, hf, e1, e2, e3, e4, e5, e6⟩ := h
  obtain ⟨P, f, N, res, E, R, ro, Φ, Ψ⟩ := Ci
  simp only at it hf e1 e2 e3 e4 e5 e6
  subst e1 e2 e3 e4 e5 e6
  exact it_ok g it hp hf Ψ

def yv (l : Nat) : Value := .func (.yield l) #[] #[]

/-- into a range over a function -/
theorem AW.range {C : Cx} {g : Operand} {ps : Array Tmp} {assign body : Code} {k : List Item} {σ : St} (hro : C.ro = none) (n fuel : Nat) {fi : FuncId} {fni : Func} {ci : Code} {first cap : List AV} (hg : ev σ g = some (true, .clo fi first cap))
    (hfi : C.P.funcs[fi]? = some fni) (hbi : fni.body = some ci) (hoki : okFn fni (first.length + (cap.length + 1)) = true) (hen : enters C.P fi = true) (hcode : (okCode C.N assign && okCode C.N body) = true)
    (hk : ∀ l Ci, Ci.E.n = σ.n → ItG C ps assign body k σ.t σ.n fuel l none Ci → Ci = ⟨C.P, fi, fni.ntmps, fni.results.toList, Ci.E, RIT C k σ.t fuel none, none, Ci.Φ, Ci.Ψ⟩ →
      AWn ⟨C.P, fi, fni.ntmps, fni.results.toList, Ci.E, RIT C k σ.t fuel none, none, Ci.Φ, Ci.Ψ⟩ n [] [] [.code ci] ⟨slots 0 (first ++ (.s (yv l) :: cap)), σ.h, σ.n⟩) :
    AW C [] [] (.code (.rangeFunc g ps assign body) :: k) σ := by
  intro ok hsuf hok hki ι S a w hs
  rw [at_nil]
  simp only [okItems, List.all_cons, Bool.and_eq_true] at hki
  simp only [Bool.and_eq_true] at hcode
  intro b cs h1 h2 h3
  rw [hro] at h3
  have henter := run_enterLoop_outer (P := C.P) (w := w) b.fn a.tmps ps assign body
  rw [← h3] at henter
  generalize hw1 : w.alloc (.deferred (some [])) = w1 at henter
  generalize hw2 : w1.alloc (.loop { state := .ready, pending := none, fn := b.fn, tmps := a.tmps, params := ps, assign, body, defers := w.heap.size }) = w2 at henter
  have hsz1 : w1.heap.size = w.heap.size + 1 := by rw [← hw1]; simp
  have hsz2 : w2.heap.size = w.heap.size + 2 := by rw [← hw2]; simp [hsz1]
  have q1 : Quiet w w1 := by rw [← hw1]; exact Quiet.alloc _ _
  have q2 : Quiet w1 w2 := by rw [← hw2]; exact Quiet.alloc _ _
  have q := q1.trans q2
  have hs2 := hs.quiet q
  generalize hl : w.heap.size + 1 = l at henter
  generalize hD : w.heap.size = D at henter hw2
  have hrec : w2.heap[l]? = some (.loop (recOf C ps assign body a D (stOf none) none)) := by
    have := World.alloc_heap_new w1 (.loop { state := .ready, pending := none, fn := b.fn, tmps := a.tmps, params := ps, assign, body, defers := D })
    rw [hw2, hsz1, hl, h1] at this
    exact this
  have hdfr : w2.heap[D]? = some (.deferred (some [])) := by
    rw [q2.heap D (by omega), ← hw1, ← hD]
    exact World.alloc_heap_new w _
  have hbad : ∀ c ∈ [l, D], C.E.w.heap.size ≤ c ∧ c < w2.heap.size ∧ ¬ S c ∧ ∀ id o, lk id σ.h = some o → (ι id).b ≠ some c := by
    intro c hc
    have hge : w.heap.size ≤ c := by
      simp only [List.mem_cons, List.not_mem_nil, or_false] at hc
      rcases hc with rfl | rfl <;> omega
    have hlt : c < w2.heap.size := by
      simp only [List.mem_cons, List.not_mem_nil, or_false] at hc
      rcases hc with rfl | rfl <;> omega
    exact ⟨Nat.le_trans hs.mem.size hge, hlt, fun hS => absurd (hs.mem.slt c hS) (Nat.not_lt.2 hge), fun id o hlo e => absurd (hs.mem.own id o c hlo e).1 (Nat.not_lt.2 hge)⟩
  obtain ⟨x, hm0⟩ := hs2.mem.base σ.n [l, D] [] hs.mem.names (Nat.le_refl _) hbad
  have g0 : LoopG C ps assign body k σ.t σ.n a l D := ⟨ok, hro, hs.tsz, hs.def0, hki.2, hcode.1, hcode.2, hs.mem.names⟩
  have it0 : ItE C ps assign body σ.t a σ.n l D none (baseE C.E ι S w2 σ.n [l, D] []) :=
    { ext := x, n := rfl, defs := rfl, live := fun b hb => ⟨hs2.mem.slt b hb, fun h => h.2.1 hb⟩, tm := hs2.tm, rcd := hrec, dfr := hdfr, ne := by omega }
  have e1 := ev_sound hs2 hg rfl
  simp only [VR] at e1
  obtain ⟨fs, cs', eg, hfs, hcs⟩ := e1
  have hres : (resolve a.eval (rangeCall g l) 0).run C.P w2 = .ok { target := .fn (.func fi) cs', args := fs ++ #[yv l] } w2 := by
    have h0 : resolve a.eval (rangeCall g l) 0 = Deferred.ofValue (a.eval g) (#[Operand.const (yv l)].map a.eval) := rfl
    have h00 : #[Operand.const (yv l)].map a.eval = #[yv l] := by simp [Act.eval]
    rw [h0, h00, eg]
    simp [Deferred.ofValue]
  have hinv : (invoke (.fn (.func fi) cs') (fs ++ #[yv l])).run C.P w2 = .ok (.enter fi ((fs ++ #[yv l]) ++ cs')) w2 := by
    simp [invoke, run_enters hen]
  have hstep := stepR_rangeFunc (P := C.P) (b := b) (a := a) (k := k) (cs := cs) (w := w) (g := g) henter hres hinv
  generalize hargs : (fs ++ #[yv l]) ++ cs' = args at hinv hstep
  have hargsv : VRs S ι σ.n w2 (first ++ (.s (yv l) :: cap)) args.toList := by
    rw [← hargs]
    simp only [Array.toList_append, List.append_assoc]
    refine hfs.append ?_
    simp only [List.cons_append, List.nil_append, VRs]
    exact ⟨yv l, cs'.toList, rfl, mk_v rfl, hcs⟩
  let Ci : Cx := ⟨C.P, fi, fni.ntmps, fni.results.toList, baseE C.E ι S w2 σ.n [l, D] [], RIT C k σ.t fuel none, none, PhiIt C k a l D, fun _ _ => False⟩
  have hit : ItG C ps assign body k σ.t σ.n fuel l none Ci := ⟨a, D, fni, g0, it0, rfl, hfi, rfl, rfl, rfl, rfl, rfl, rfl⟩
  simp only [okFn, hbi, Bool.and_eq_true, decide_eq_true_eq] at hoki
  have hsi : Sim Ci.E Ci.N ⟨slots 0 (first ++ (.s (yv l) :: cap)), σ.h, σ.n⟩ ι S ⟨args ++ Array.replicate (fni.ntmps - args.size) undef, []⟩ w2 :=
    sim_entry hm0 hargsv (by simpa using hoki.2) rfl
  have hgo : Goes Ci [.code ci] ⟨args ++ Array.replicate (fni.ntmps - args.size) undef, []⟩ w2 :=
    at_nil.1 (AWn_sound n [] [] _ _ (hk l Ci rfl hit rfl) hit.ok (List.suffix_refl _) rfl (by simp [okItems, okItem]; exact hoki.1) ι S _ w2 hsi)
  let bi : Frame := { (default : Frame) with fn := fi, kind := .normal, roundOf := none }
  have hfr : Frame.enter C.P fi args .normal = bi.atR ⟨args ++ Array.replicate (fni.ntmps - args.size) undef, []⟩ [.code ci] := by
    simp [Frame.enter, Frame.atR, hfi, hbi, bi]
  rw [hfr] at hstep
  have hdn : ∃ v w' fr, PhiIt C k a l D v w' ∧ Steps C.P (lone (bi.atR ⟨args ++ Array.replicate (fni.ntmps - args.size) undef, []⟩ [.code ci]) (b.atR { a with defers := [mark D] ++ a.defers } (.inRangeFunc l :: k) :: cs) w2)
      (lone fr (b.atR { a with defers := [mark D] ++ a.defers } (.inRangeFunc l :: k) :: cs) w') ∧ fr.fn = fi ∧ fr.leaving C.P w' (.returned v) := hgo bi _ rfl rfl rfl
  obtain ⟨v, w', fr, ⟨jump, w4, hend, hgC⟩, hst, hfn, hleave⟩ := hdn
  have s3 := step_leave_returned (c := b.atR { a with defers := [mark D] ++ a.defers } (.inRangeFunc l :: k)) (cs := cs) hleave
  rw [finish_atR_inRangeFunc] at s3
  have s4 := stepR_endRangeFunc (P := C.P) (b := b) (a := { a with defers := [mark D] ++ a.defers }) (k := k) (cs := cs) hend
  have hdone := hgC b cs h1 h2 (by rw [hro]; exact h3)
  exact .of_steps (.head hstep (Steps.trans hst (.head s3 (.one s4)))) hdone

/-- one operation of a region, whatever it is -/
theorem at_stepIn {C : Cx} {all os : List Oper} {o : Oper} {k : List Item} {σ : St} {ι : Nat → Loc} {S : Nat → Prop} {a : Act} {w : World}
    (hw : o.wpIn C.F 0 C.P a w (fun a' w' => At C all os k a' w') (QN C k)) (hs : Sim C.E C.N σ ι S a w) (hg : guardOf all σ o.guard = some true) (hsuf : o :: os <:+ all) : At C all (o :: os) k a w := by
  obtain ⟨h1, h2⟩ := suf_get hsuf
  have hwant := guard_sound hs hg
  unfold At
  rw [show (o :: os).length = os.length + 1 from rfl] at h1 h2 ⊢
  rw [List.range'_succ]
  simp only [wpOpsIn, h1]
  have hrest : wpOpsIn C.F 0 C.P all.toArray (QN C k) (List.range' (all.length - (os.length + 1) + 1) os.length) = fun a' w' => At C all os k a' w' := by
    funext a' w'
    rw [At, h2]
  rw [hwant, hrest]
  simpa using hw

/-- a round that may begin -/
def RoundG (CR : Cx) (l : Nat) : Prop := CR.ro = some l ∧ ∀ (σ : St) ι S a w, Sim CR.E CR.N σ ι S a w → ∃ w1 E1, (Instr.beginRound l).run CR.P w = .ok () w1 ∧ E1.n = CR.E.n ∧ Sim E1 CR.N σ ι S a w1 ∧ Cx.Ok { CR with E := E1 }
theorem AW.beginRound {CR : Cx} {l : Nat} {k : List Item} {σ : St} (n : Nat) (h : RoundG CR l) (hk : ∀ E1, E1.n = CR.E.n → AWn { CR with E := E1 } n [] [] k σ) : AW CR [] [] (.beginRound :: k) σ := by
  intro ok hsuf hok hki ι S a w hs
  rw [at_nil]
  obtain ⟨hro, h⟩ := h
  obtain ⟨w1, E1, hrun, hn, hs1, ok1⟩ := h σ ι S a w hs
  simp only [okItems, List.all_cons, Bool.and_eq_true] at hki
  intro b cs h1 h2 h3
  have hst := stepR_beginRound (P := CR.P) (b := b) (a := a) (k := k) (cs := cs) (by rw [h3]; exact hro) hrun
  have hgo : Goes { CR with E := E1 } k a w1 := at_nil.1 (AWn_sound n [] [] _ _ (hk E1 hn) ok1 (List.suffix_refl _) rfl hki.2 ι S _ w1 hs1)
  exact .of_steps (.one hst) (hgo b cs h1 h2 h3)

/-- where a round ends, the iterator goes on -/
def RRd (C : Cx) (ps : Array Tmp) (assign body : Code) (k : List Item) (T : List (Nat × AV)) (m fuel l : Nat) (Ci : Cx) (n : Nat) (all os : List Oper) (ki : List Item) (ti : List (Nat × AV)) (d : Option Nat) : AV → St → Prop
  | .f (.v (.bool true)), σ' => ∀ E', E'.n = m → ItG C ps assign body k T m fuel l none { Ci with E := E' } → AWn { Ci with E := E' } n all os ki (St.put ⟨ti, σ'.h, σ'.n⟩ d (.s (.bool true)))
  | .tup [], σ' => ∀ E', E'.n = m → ItG C ps assign body k T m fuel l (some .ret) { Ci with E := E', R := RIT C k T fuel (some .ret) } → AWn { Ci with E := E', R := RIT C k T fuel (some .ret) } n all os ki (St.put ⟨ti, σ'.h, σ'.n⟩ d (.s (.bool false)))
  | .it id, σ' => ∀ E', E'.n = m → ItG C ps assign body k T m fuel l (some (.exit id)) { Ci with E := E', R := RIT C k T fuel (some (.exit id)) } → AWn { Ci with E := E', R := RIT C k T fuel (some (.exit id)) } n all os ki (St.put ⟨ti, σ'.h, σ'.n⟩ d (.s (.bool false)))
  | _, _ => False
def putPs (ps : List Nat) (xs : List AV) (T : List (Nat × AV)) : List (Nat × AV) := (ps.zip xs).foldl (fun t p => p :: t) T

theorem putPs_sound {S : Nat → Prop} {ι : Nat → Loc} {n : Nat} {w : World} : ∀ (ps : List Nat) (xs : List AV) (vs : List Value) (T : List (Nat × AV)) (tm : Array Value), VRs S ι n w xs vs → (∀ p ∈ ps, p < tm.size) →
    (∀ t v, lk t T = some v → VR S ι n w v (tm.getD t undef)) →
    (∀ t v, lk t (putPs ps xs T) = some v → VR S ι n w v (((ps.zip vs).foldl (fun tmps p => tmps.setIfInBounds p.1 p.2) tm).getD t undef)) ∧ ((ps.zip vs).foldl (fun tmps p => tmps.setIfInBounds p.1 p.2) tm).size = tm.size
  | [], xs, vs, T, tm, _, _, h => ⟨by simpa [putPs] using h, by simp⟩
  | p :: ps, [], vs, T, tm, hv, _, h => by
    simp only [VRs] at hv; subst hv
    exact ⟨by simpa [putPs] using h, by simp⟩
  | p :: ps, x :: xs, vs, T, tm, hv, hp, h => by
    simp only [VRs] at hv
    obtain ⟨y, ys, rfl, hy, hv⟩ := hv
    have := putPs_sound ps xs ys ((p, x) :: T) (tm.setIfInBounds p y) hv (fun q hq => by simpa using hp q (by simp [hq])) (fun t v hl => by
      rw [lk_cons] at hl
      split at hl
      · rename_i e; subst e
        simp only [Option.some.injEq] at hl; subst hl
        have : (tm.setIfInBounds t y).getD t undef = y := by
          simp [Array.getD_eq_getD_getElem?, hp t (by simp)]
        rw [this]; exact hy
      · rename_i e
        have : (tm.setIfInBounds p y).getD t undef = tm.getD t undef := by
          simp [Array.getD_eq_getD_getElem?, Array.getElem?_setIfInBounds_ne (Ne.symm e)]
        rw [this]; exact h t v hl)
    refine ⟨fun t v hl => this.1 t v hl, by simpa using this.2⟩

section
variable {C : Cx} {ps : Array Tmp} {assign body : Code} {k : List Item} {T : List (Nat × AV)} {a ai : Act} {m l D fuel : Nat} {E : Ent} {Ci : Cx} {all os : List Oper} {ki : List Item} {ti : List (Nat × AV)} {d : Option Nat} {n mi : Nat}

/-- a round's base -/
structure RoE (C : Cx) (ps : Array Tmp) (assign body : Code) (T : List (Nat × AV)) (a : Act) (m l D : Nat) (ti : List (Nat × AV)) (ai : Act) (mi : Nat) (st : LoopState) (E : Ent) : Prop where
  ext : Ext C.E E [l, D]
  n : E.n = mi
  mle : m ≤ mi
  defs : E.defs = []
  live : ∀ b, E.S b → b < E.w.heap.size ∧ ¬ E.own b
  tmT : ∀ t v, lk t T = some v → VR E.S E.ι m E.w v (a.tmps.getD t undef)
  tmI : ∀ t v, lk t ti = some v → VR E.S E.ι mi E.w v (ai.tmps.getD t undef)
  rcd : E.w.heap[l]? = some (.loop (recOf C ps assign body a D st none))
  dfr : E.w.heap[D]? = some (.deferred (some []))
  ne : l ≠ D
def PsiR (Ci : Cx) (l : Nat) (all os : List Oper) (ki : List Item) (ai : Act) (d : Option Nat) (j : Option Code) (w' : World) : Prop :=
  ∃ w'', (Instr.endRound l j).run Ci.P w' = .ok (.bool j.isNone) w'' ∧ At Ci all os ki (ai.put d (.bool j.isNone)) w''

theorem VR.onto {E : Ent} {h : Heap} {n : Nat} {ι : Nat → Loc} {S : Nat → Prop} {w : World} (hm : Mem E h n ι S w) (hS : ∀ b, E.S b → b < E.w.heap.size ∧ ¬ E.own b) {m m' : Nat} (h1 : m ≤ E.n) (h2 : m ≤ m') {v : AV} {y : Value} (hv : VR E.S E.ι m E.w v y) : VR S ι m' w v y :=
  hv.mono hm.ssup (fun b hb => hm.keep b (hS b hb).1 (hS b hb).2) h2 (fun id hid => hm.same id (Nat.lt_of_lt_of_le hid h1))

theorem ro_fin (g : LoopG C ps assign body k T m a l D) (hit : ItG C ps assign body k T m fuel l none Ci) (hd0 : Ci.Φ = PhiIt C k a l D) {st : LoopState} (ro : RoE C ps assign body T a m l D ti ai mi st E) (hsz : ai.tmps.size = Ci.N) (hdf : ai.defers = []) (hdd : ∀ d', d = some d' → d' < Ci.N)
    (hsuf : os <:+ all) (hok : okOps Ci.N all = true) (hki : okItems Ci.N ki = true) (j : Option Code) (σ' : St) (ι : Nat → Loc) (S : Nat → Prop) (w : World) (hj : jOK j = true) (hm : Mem E σ'.h σ'.n ι S w)
    (hr : RRd C ps assign body k T m fuel l Ci n all os ki ti d (jAV j) ⟨[], σ'.h, σ'.n⟩) : PsiR Ci l all os ki ai d j w := by
  have ml : l ∈ [l, D] := by simp
  have mD : D ∈ [l, D] := by simp
  have hrec : w.heap[l]? = some (.loop (recOf C ps assign body a D st none)) := by rw [ro.ext.still hm ml]; exact ro.rcd
  refine ⟨_, run_endRound j hrec, ?_⟩
  generalize hw2 : w.putObj l (.loop { recOf C ps assign body a D st none with state := if j.isNone then .ready else .done, pending := j }) = w2
  have q : Same [l, D] w w2 := by rw [← hw2]; exact .put _ ml
  have hm2 : Mem C.E σ'.h σ'.n ι S w2 := hm.back ro.ext q
  have hmn : m ≤ σ'.n := Nat.le_trans ro.mle (by have := hm.names; rw [ro.n] at this; exact this)
  obtain ⟨x, hm3⟩ := hm2.base m [l, D] [] g.em hmn (ro.ext.rebad hm q)
  have hl2 : l < w.heap.size := Nat.lt_of_lt_of_le (ro.ext.bad l ml).2.1 hm.size
  have it2 : ItE C ps assign body T a m l D j (baseE C.E ι S w2 m [l, D] []) :=
    { ext := x, n := rfl, defs := rfl, live := fun b hb => ⟨hm2.slt b hb, fun h => h.2.1 hb⟩
      tm := fun t v hl => ((ro.tmT t v hl).onto hm ro.live (by rw [ro.n]; exact ro.mle) (Nat.le_refl _)).same q fun b hb => (ro.ext.free hm hb).1
      rcd := by
        show w2.heap[l]? = _
        rw [← hw2, World.putObj_heap_same hl2]
        rfl
      dfr := by
        show w2.heap[D]? = _
        rw [← hw2, World.putObj_heap_other (fun e => ro.ne e.symm), ro.ext.still hm mD]; exact ro.dfr
      ne := ro.ne }
  obtain ⟨a0, D0, fni, g0, it0, hp0, hf, e1, e2, e3, e4, e5, e6⟩ := hit
  have hs : ∀ b : Bool, Sim (baseE C.E ι S w2 m [l, D] []) Ci.N (St.put ⟨ti, σ'.h, σ'.n⟩ d (.s (.bool b))) ι S (ai.put d (.bool b)) w2 := fun b =>
    Sim.put (σ := ⟨ti, σ'.h, σ'.n⟩) ⟨hm3, hsz, fun t v hl => ((ro.tmI t v hl).onto hm ro.live (by rw [ro.n]; exact Nat.le_refl _) (by have := hm.names; rw [ro.n] at this; exact this)).same q fun b hb => (ro.ext.free hm hb).1, by rw [hdf]; rfl⟩ hdd (mk_v rfl)
  have hok2 : ∀ (j' : Option Code), j' = j → ItG C ps assign body k T m fuel l j' { Ci with E := baseE C.E ι S w2 m [l, D] [], R := RIT C k T fuel j' } := by
    rintro _ rfl
    exact ⟨a, D, fni, g, it2, hj, hf, e1, e2, e3, rfl, e5, hd0⟩
  match j, hj with
  | none, _ =>
    have hi := hok2 none rfl
    rw [← e4] at hi
    have := hr (baseE C.E ι S w2 m [l, D] []) rfl hi
    exact AWn_sound (C := { Ci with E := baseE C.E ι S w2 m [l, D] [] }) _ _ _ _ _ this hi.ok hsuf hok hki ι S _ w2 (hs true)
  | some .ret, _ =>
    have hi := hok2 (some .ret) rfl
    have := hr (baseE C.E ι S w2 m [l, D] []) rfl hi
    exact AWn_sound (C := { Ci with E := baseE C.E ι S w2 m [l, D] [], R := RIT C k T fuel (some .ret) }) _ _ _ _ _ this hi.ok hsuf hok hki ι S _ w2 (hs false)
  | some (.exit id), _ =>
    have hi := hok2 (some (.exit id)) rfl
    have := hr (baseE C.E ι S w2 m [l, D] []) rfl hi
    exact AWn_sound (C := { Ci with E := baseE C.E ι S w2 m [l, D] [], R := RIT C k T fuel (some (.exit id)) }) _ _ _ _ _ this hi.ok hsuf hok hki ι S _ w2 (hs false)
end

theorem foldl_zip {α β γ : Type} (f : γ → α × β → γ) (xs : Array α) (ys : Array β) (z : γ) : (xs.zip ys).foldl f z = (xs.toList.zip ys.toList).foldl f z := by
  rw [← Array.foldl_toList, Array.toList_zip]

/-- the iterator calls what it was handed: a round -/
theorem AW.yield {C : Cx} {ps : Array Tmp} {assign body : Code} {k : List Item} {T : List (Nat × AV)} {m fuel l : Nat} {Ci : Cx} {all os : List Oper} {o : Oper} {ki : List Item} {σ : St} (n nR : Nat) {x : Operand} {cl : Call} {xs : List AV}
    (hit : ItG C ps assign body k T m fuel l none Ci) (hg : guardOf all σ o.guard = some true) (ho : o.op = .call cl) (hc : cl.callee = .value x) (hx : ev σ x = some (true, .s (yv l))) (ha : evl σ cl.args.toList = some (true, xs))
    (hlen : xs.length = ps.size) (hps : (ps.toList.all fun p => decide (p < C.N)) = true)
    (hk : ∀ CR : Cx, CR.E.n = σ.n → RoundG CR l → CR = ⟨C.P, C.f, C.N, C.res, CR.E, RRd C ps assign body k T m fuel l Ci n all os ki σ.t o.dst, some l, CR.Φ, CR.Ψ⟩ →
      AWn ⟨C.P, C.f, C.N, C.res, CR.E, RRd C ps assign body k T m fuel l Ci n all os ki σ.t o.dst, some l, CR.Φ, CR.Ψ⟩ nR [] [] [.code assign, .beginRound, .code body] ⟨putPs ps.toList xs T, σ.h, σ.n⟩) :
    AW Ci all (o :: os) ki σ := by
  intro ok hsuf hok hki ι S ai w hs
  have hit' := hit
  obtain ⟨a, D, fni, g, it, hp, hf, e1, e2, e3, e4, e5, e6⟩ := hit
  have hd := okOps_mem hok (hsuf.subset (List.mem_cons_self ..))
  have hnd := okOps_nd hok (hsuf.subset (List.mem_cons_self ..))
  have hsuf' : os <:+ all := (List.suffix_cons o os).trans hsuf
  refine at_stepIn ?_ hs hg hsuf
  have ml : l ∈ [l, D] := by simp
  have mD : D ∈ [l, D] := by simp
  have hrec : w.heap[l]? = some (.loop (recOf C ps assign body a D .ready none)) := by rw [it.ext.still hs.mem ml]; exact it.rcd
  have hdfr : w.heap[D]? = some (.deferred (some [])) := by rw [it.ext.still hs.mem mD]; exact it.dfr
  have hsem : o.semAt Ci.F.round ai.eval = execOp ai.eval o := by
    unfold Oper.semAt
    split
    · rename_i ho'; rw [ho'] at hnd; cases hnd
    · rfl
  have k1 := vr_v (ev_sound hs hx rfl)
  have kv := evl_sound hs ha rfl
  have hvl : (cl.args.map ai.eval).size = ps.size := by
    have := kv.length
    simp only [List.length_map, Array.length_toList] at this
    simp only [Array.size_map]
    omega
  have hrun : (execOp ai.eval o).run Ci.P w = .ok (.round l C.f ((ps.zip (cl.args.map ai.eval)).foldl (fun tmps (t, a) => tmps.setIfInBounds t a) a.tmps) assign body) w := by
    have := run_yield (P := Ci.P) (args := cl.args.map ai.eval) hrec hvl
    simp only [recOf] at this
    have h2 : (execOp ai.eval o) = (do let d ← resolve ai.eval cl o.type; invoke d.target d.args) := by simp [execOp, ho]
    have h3 : resolve ai.eval cl o.type = Deferred.ofValue (ai.eval x) (cl.args.map ai.eval) := by simp [resolve, hc]
    rw [h2, h3, k1]
    simp [Deferred.ofValue, yv, invoke, this]
  unfold Oper.wpIn
  refine ⟨fun f _ => Ci.F_fn f, ?_⟩
  rw [hsem, hrun, Oper.uponIn_round]
  refine ⟨fun hh => (by rw [Ci.F_depth] at hh; cases hh), Ci.F_fn _, fun c cs _ => ?_⟩
  generalize htm : ((ps.zip (cl.args.map ai.eval)).foldl (fun tmps (t, a) => tmps.setIfInBounds t a) a.tmps) = tmps
  -- the round's base
  have hmC : Mem C.E σ.h σ.n ι S w := hs.mem.back it.ext (.refl _ _)
  have hmn : m ≤ σ.n := by have := hs.mem.names; rw [it.n] at this; exact this
  obtain ⟨xR, hmR⟩ := hmC.base σ.n [l, D] [] (Nat.le_trans g.em hmn) (Nat.le_refl _) (it.ext.rebad hs.mem (.refl _ _))
  have roR : RoE C ps assign body T a m l D σ.t ai σ.n .ready (baseE C.E ι S w σ.n [l, D] []) :=
    { ext := xR, n := rfl, mle := hmn, defs := rfl, live := fun b hb => ⟨hs.mem.slt b hb, fun h => h.2.1 hb⟩
      tmT := fun t v hl => by
        have := it.tm t v hl
        rw [it.n] at this
        exact this.onto hs.mem it.live (by rw [it.n]; exact Nat.le_refl _) (Nat.le_refl _)
      tmI := hs.tm, rcd := hrec, dfr := hdfr, ne := it.ne }
  have hsz : ai.tmps.size = Ci.N := hs.tsz
  have hdf : ai.defers = [] := by rw [hs.def0]; exact it.defs
  let CR : Cx := ⟨C.P, C.f, C.N, C.res, baseE C.E ι S w σ.n [l, D] [], RRd C ps assign body k T m fuel l Ci n all os ki σ.t o.dst, some l, fun _ _ => False, PsiR Ci l all os ki ai o.dst⟩
  have okR : ∀ {st : LoopState} {E1 : Ent}, RoE C ps assign body T a m l D σ.t ai σ.n st E1 → Cx.Ok { CR with E := E1 } := fun {st E1} ro =>
    { fn := g.ok.fn
      mixed := g.ok.mixed
      fin := fun h => by cases h
      finR := fun _ j σ' ι' S' a' w' hj hs' hr => ro_fin (n := n) g hit' e6 ro hsz hdf hd hsuf' hok hki j σ' ι' S' w' hj hs'.mem hr }
  have hRG : RoundG CR l := by
    refine ⟨rfl, fun σ' ι' S' a' w' hs' => ?_⟩
    have hrec' : w'.heap[l]? = some (.loop (recOf C ps assign body a D .ready none)) := by rw [xR.still hs'.mem ml]; exact hrec
    have hdfr' : w'.heap[D]? = some (.deferred (some [])) := by rw [xR.still hs'.mem mD]; exact hdfr
    generalize hw1 : w'.putObj l (.loop { recOf C ps assign body a D .ready none with state := .busy }) = w1
    have q : Same [l, D] w' w1 := by rw [← hw1]; exact .put _ ml
    have hm1 : Mem C.E σ'.h σ'.n ι' S' w1 := hs'.mem.back xR q
    obtain ⟨x1, hmB⟩ := hm1.base σ.n [l, D] [] (Nat.le_trans g.em hmn) hs'.mem.names (xR.rebad hs'.mem q)
    have hl2 : l < w'.heap.size := Nat.lt_of_lt_of_le (xR.bad l ml).2.1 hs'.mem.size
    have ro1 : RoE C ps assign body T a m l D σ.t ai σ.n .busy (baseE C.E ι' S' w1 σ.n [l, D] []) :=
      { ext := x1, n := rfl, mle := hmn, defs := rfl, live := fun b hb => ⟨hm1.slt b hb, fun h => h.2.1 hb⟩
        tmT := fun t v hl => ((roR.tmT t v hl).onto hs'.mem roR.live hmn (Nat.le_refl _)).same q fun b hb => (xR.free hs'.mem hb).1
        tmI := fun t v hl => ((roR.tmI t v hl).onto hs'.mem roR.live (Nat.le_refl _) (Nat.le_refl _)).same q fun b hb => (xR.free hs'.mem hb).1
        rcd := by
          show w1.heap[l]? = _
          rw [← hw1, World.putObj_heap_same hl2]
          rfl
        dfr := by
          show w1.heap[D]? = _
          rw [← hw1, World.putObj_heap_other (fun e => it.ne e.symm)]; exact hdfr'
        ne := it.ne }
    refine ⟨w1, baseE C.E ι' S' w1 σ.n [l, D] [], ?_, rfl, ?_, okR ro1⟩
    · have := run_beginRound (P := CR.P) hrec' rfl
      rw [hw1] at this
      exact this
    · exact ⟨hmB, hs'.tsz, fun t v hl => (hs'.tm t v hl).same q fun b hb => (xR.free hs'.mem hb).1, hs'.def0⟩
  -- the round goes
  have hts : (∀ t v, lk t (putPs ps.toList xs T) = some v → VR S ι σ.n w v (tmps.getD t undef)) ∧ tmps.size = a.tmps.size := by
    have := putPs_sound ps.toList xs (cl.args.map ai.eval).toList T a.tmps (by simpa using kv) (fun p hp => by
      rw [g.tsz]
      simpa using List.all_eq_true.1 hps p hp) (fun t v hl => by
        have := it.tm t v hl
        rw [it.n] at this
        exact this.onto hs.mem it.live (by rw [it.n]; exact Nat.le_refl _) hmn)
    rw [← htm, foldl_zip]
    exact this
  have hsR : Sim CR.E CR.N ⟨putPs ps.toList xs T, σ.h, σ.n⟩ ι S ⟨tmps, []⟩ w := ⟨hmR, by rw [hts.2, g.tsz], hts.1, rfl⟩
  have hgo : Goes CR [.code assign, .beginRound, .code body] ⟨tmps, []⟩ w :=
    at_nil.1 (AWn_sound nR [] [] _ _ (hk CR rfl hRG rfl) (okR roR) (List.suffix_refl _) rfl (by simp [okItems, okItem, g.oka, g.okb]) ι S _ w hsR)
  let b : Frame := { (default : Frame) with fn := C.f, kind := .normal, roundOf := some l }
  have hb0 : Frame.round l C.f tmps assign body .normal = b.atR { tmps := tmps, defers := [] } [.code assign, .beginRound, .code body] := by
    simp [Frame.round, Frame.atR, b]
  have hdn : ∃ j a' w' k', PsiR Ci l all os ki ai o.dst j w' ∧ Steps Ci.P (lone (b.atR ⟨tmps, []⟩ [.code assign, .beginRound, .code body]) (c :: cs) w) (lone (b.atR a' k') (c :: cs) w') ∧ Leave j k' := by
    have := hgo b (c :: cs) rfl rfl rfl
    rw [e1]
    exact this
  obtain ⟨j, a', w', k', ⟨w'', hend, hat⟩, hst, hlv⟩ := hdn
  refine ⟨.returned (.bool j.isNone), w'', hat, ?_⟩
  show StepsIn _ _ _ _
  rw [hb0]
  refine Cx.F_in (C := Ci) (Steps.trans hst (.one ?_))
  match j, hlv with
  | none, hlv =>
    cases hlv
    exact stepR_round_end rfl rfl hend
  | some .ret, ⟨k1, e⟩ =>
    subst e
    exact stepR_round_ret rfl rfl hend
  | some (.exit id), ⟨k1, e, hx⟩ =>
    subst e
    exact stepR_round_exit rfl rfl hx hend

/-- an operation whose guard does not hold -/
theorem AW.no {C : Cx} {n : Nat} {all os : List Oper} {o : Oper} {k : List Item} {σ : St} (v : AV) (hg : guardOf all σ o.guard = some false) (hk : AWn C n all os k (σ.put o.dst (.g v))) : AW C all (o :: os) k σ := by
  intro ok hsuf hok hki ι S a w hs
  have hd := okOps_mem hok (hsuf.subset (List.mem_cons_self ..))
  have hsuf' : os <:+ all := (List.suffix_cons o os).trans hsuf
  refine at_step (σ := σ) ?_ ?_ hs hg hsuf hok
  · intro c' hc' hct
    rw [hg] at hc'; simp only [Option.some.injEq] at hc'
    rw [← hc'] at hct; cases hct
  · intro c' hc' hct
    exact AWn_sound _ _ _ _ _ hk ok hsuf' hok hki ι S _ w (put_false hs hd v)
theorem AW.imp' {C : Cx} {n : Nat} {all os : List Oper} {k : List Item} {σ σ' : St} (h : Imp C.E σ σ') (h' : AWn C n all os k σ') : AW C all os k σ := .imp h (AWn_sound _ _ _ _ _ h')
end Go.Fw

set_option linter.unusedVariables false
namespace Go.Fw
open Go

/-- the caller goes on behind a loop, or with the jump that a round left -/
def GoOn (C : Cx) (fuel : Nat) (k : List Item) (T : List (Nat × AV)) (h : Heap) (n : Nat) : Prop := ∀ E', E'.n = C.E.n → AWn { C with E := E' } fuel [] [] k ⟨T, h, n⟩
/-- what a loop's context is told by -/
structure ItK (C : Cx) (ps : Array Tmp) (assign body : Code) (k : List Item) (T : List (Nat × AV)) (m fuel l : Nat) (P : Program) (fi N : Nat) (res : List ResultVar) (R : AV → St → Prop) (Φ : Value → World → Prop) (Ψ : Option Code → World → Prop) (Y : Ent → Prop) : Prop where
  fin : ∀ av h n, GoOn C fuel k T h n → R av ⟨[], h, n⟩
  yield : ∀ {E : Ent} {all os : List Oper} {o : Oper} {ki : List Item} {σ : St} (n nR : Nat) {x : Operand} {cl : Call} {xs : List AV}, Y E → guardOf all σ o.guard = some true → o.op = .call cl → cl.callee = .value x → ev σ x = some (true, .s (yv l)) →
    evl σ cl.args.toList = some (true, xs) → xs.length = ps.size → (ps.toList.all fun p => decide (p < C.N)) = true →
    (∀ (ER : Ent) (RR : AV → St → Prop) (ΦR : Value → World → Prop) (ΨR : Option Code → World → Prop), ER.n = σ.n → RoundG ⟨C.P, C.f, C.N, C.res, ER, RR, some l, ΦR, ΨR⟩ l →
      (∀ h n', (∀ E', E'.n = m → Y E' → AWn ⟨P, fi, N, res, E', R, none, Φ, Ψ⟩ n all os ki (St.put ⟨σ.t, h, n'⟩ o.dst (.s (.bool true)))) → RR (.s (.bool true)) ⟨[], h, n'⟩) →
      (∀ h n', (∀ E' R', E'.n = m → (∀ av h n, GoOn C fuel (.code .ret :: k) T h n → R' av ⟨[], h, n⟩) → AWn ⟨P, fi, N, res, E', R', none, Φ, Ψ⟩ n all os ki (St.put ⟨σ.t, h, n'⟩ o.dst (.s (.bool false)))) → RR (.tup []) ⟨[], h, n'⟩) →
      (∀ id h n', (∀ E' R', E'.n = m → (∀ av h n, GoOn C fuel (.code (.exit id) :: k) T h n → R' av ⟨[], h, n⟩) → AWn ⟨P, fi, N, res, E', R', none, Φ, Ψ⟩ n all os ki (St.put ⟨σ.t, h, n'⟩ o.dst (.s (.bool false)))) → RR (.it id) ⟨[], h, n'⟩) →
      AWn ⟨C.P, C.f, C.N, C.res, ER, RR, some l, ΦR, ΨR⟩ nR [] [] [.code assign, .beginRound, .code body] ⟨putPs ps.toList xs T, σ.h, σ.n⟩) →
    AW ⟨P, fi, N, res, E, R, none, Φ, Ψ⟩ all (o :: os) ki σ

theorem AW.ranged {C : Cx} {g : Operand} {ps : Array Tmp} {assign body : Code} {k : List Item} {σ : St} (hro : C.ro = none) (n fuel : Nat) {fi : FuncId} {fni : Func} {ci : Code} {first cap : List AV} (hg : ev σ g = some (true, .clo fi first cap))
    (hfi : C.P.funcs[fi]? = some fni) (hbi : fni.body = some ci) (hoki : okFn fni (first.length + (cap.length + 1)) = true) (hen : enters C.P fi = true) (hcode : (okCode C.N assign && okCode C.N body) = true)
    (hk : ∀ (l : Nat) (R : AV → St → Prop) (Φ : Value → World → Prop) (Ψ : Option Code → World → Prop) (Y : Ent → Prop) (E : Ent), E.n = σ.n → Y E → ItK C ps assign body k σ.t σ.n fuel l C.P fi fni.ntmps fni.results.toList R Φ Ψ Y →
      AWn ⟨C.P, fi, fni.ntmps, fni.results.toList, E, R, none, Φ, Ψ⟩ n [] [] [.code ci] ⟨slots 0 (first ++ (.s (yv l) :: cap)), σ.h, σ.n⟩) :
    AW C [] [] (.code (.rangeFunc g ps assign body) :: k) σ := by
  refine AW.range hro n fuel hg hfi hbi hoki hen hcode fun l Ci hn hit hCi => ?_
  refine hk l _ _ _ (fun E => ItG C ps assign body k σ.t σ.n fuel l none ⟨C.P, fi, fni.ntmps, fni.results.toList, E, RIT C k σ.t fuel none, none, Ci.Φ, Ci.Ψ⟩) Ci.E hn (by rw [← hCi]; exact hit) ⟨fun av h n hgo => hgo, ?_⟩
  intro E all os o ki σi n nR x cl xs hY hgd ho hc hx ha hlen hps hkk
  refine AW.yield n nR hY hgd ho hc hx ha hlen hps fun CR hCn hRG hCR => ?_
  refine hkk CR.E _ CR.Φ CR.Ψ hCn (by rw [← hCR]; exact hRG) ?_ ?_ ?_
  · intro h n' H E' hE' hit'
    exact H E' hE' hit'
  · intro h n' H E' hE' hit'
    exact H E' _ hE' (fun av h n hgo => hgo)
  · intro id h n' H E' hE' hit'
    exact H E' _ hE' (fun av h n hgo => hgo)

/-- a loop of an iterator: the base turns with each round -/
theorem AL.it {c : Code} {k : List Item} {X : Type} {CC : Ent → Cx} (n : Nat) (G : Ent → Prop) (I : X → Prop) (μ : X → Nat) (st : X → St) (x0 : X) {E0 : Ent} {σ0 : St} (hG : G E0) (h0 : I x0) (himp : Imp (CC E0).E σ0 (st x0))
    (hstep : ∀ E x, G E → I x → (∀ E' y σ', G E' → I y → μ y < μ x → Imp (CC E').E σ' (st y) → AL (CC E') c k σ') → AWn (CC E) n [] [] (.code c :: .inLoop c :: k) (st x)) : AL (CC E0) c k σ0 := by
  have key : ∀ m x E, μ x = m → G E → I x → AL (CC E) c k (st x) := by
    intro m
    induction m using Nat.strongRecOn with
    | _ m ih =>
      intro x E hm hE hI
      exact AWn_sound n _ _ _ _ (hstep E x hE hI fun E' y σ' hE' hy hlt hi => .imp hi (ih (μ y) (hm ▸ hlt) y E' rfl hE' hy))
  exact .imp himp (key _ x0 E0 rfl hG h0)

section
variable {C : Cx} {n : Nat} {all os : List Oper} {o : Oper} {k : List Item} {σ : St}
/-- two structs held against one another, under a guard that holds -/
theorem AW.cmpG (neq b : Bool) (d : Nat) {T U : TypeId} {x y : Operand} {X Y : AV} {xs ys lx ly : List Value} (hg : guardOf all σ o.guard = some true) (ho : o.op = .binOp (bif neq then .neq else .eql) T x y U) (hx : ev σ x = some (true, X)) (hy : ev σ y = some (true, Y))
    (vx : valsA X = some xs) (vy : valsA Y = some ys) (hm : C.P.eqGuardType C.P.depth T = false) (hagg : isAggT C.P T = true) (hd : d ≤ 10000) (cx : cmpL C.P d T xs = some lx) (cy : cmpL C.P d T ys = some ly) (hb : b = true ↔ lx = ly)
    (hk : AWn C n all os k (σ.put o.dst (.s (.bool (bif neq then !b else b))))) : AW C all (o :: os) k σ := by
  intro ok hsuf hok hki ι S a w hs
  have hdst := okOps_mem hok (hsuf.subset (List.mem_cons_self ..))
  have hsuf' : os <:+ all := (List.suffix_cons o os).trans hsuf
  refine at_step (σ := σ) ?_ ?_ hs hg hsuf hok
  · intro c' hc' hct
    have e1 := valsA_sound vx (ev_sound hs hx rfl)
    have e2 := valsA_sound vy (ev_sound hs hy rfl)
    have hrun := run_cmp (w := w) ho e1 e2 hm hagg hd cx cy hb
    unfold Oper.wp
    rw [hrun, Oper.upon_value]
    exact AWn_sound _ _ _ _ _ hk ok hsuf' hok hki ι S _ w (hs.put hdst (mk_v rfl))
  · intro c' hc' hct
    rw [hg] at hc'; simp only [Option.some.injEq] at hc'
    rw [← hc'] at hct; cases hct
end
end Go.Fw

set_option linter.unusedVariables false
namespace Go.Fw
open Go Go.ChangeMaps Go.ChangeShapes Go.WideShapes Go.MapKept

/-- a key, as a value -/
def keyV : AV → Option Value
  | .f (.v x) => some x
  | .agg xs => (valsA (.agg xs)).map fun vs => .agg vs.toArray
  | .f (.agg xs) => (valsA (.f (.agg xs))).map fun vs => .agg vs.toArray
  | _ => none
theorem keyV_sound {S : Nat → Prop} {ι : Nat → Loc} {n : Nat} {w : World} {x : AV} {v y : Value} (h : keyV x = some v) (hv : VR S ι n w x y) : y = v := by
  unfold keyV at h
  split at h
  · simp only [Option.some.injEq] at h
    subst h
    simp only [VR, FR] at hv
    exact hv.1
  · simp only [Option.map_eq_some_iff] at h
    obtain ⟨vs, h1, rfl⟩ := h
    exact valsA_sound h1 hv
  · simp only [Option.map_eq_some_iff] at h
    obtain ⟨vs, h1, rfl⟩ := h
    exact valsA_sound h1 hv
  · cases h
theorem FRm_get {S : Nat → Prop} {w : World} : ∀ {kv : List (Value × FV)} {es : List MapEntry} {j : Nat} {e : MapEntry}, FRm S w kv es → es[j]? = some e → ∃ x, kv[j]? = some (e.key, x) ∧ FR S w x e.val
  | [], es, j, e, h, hj => by simp only [FRm] at h; subst h; simp at hj
  | (k, x) :: kv, es, j, e, h, hj => by
    simp only [FRm] at h
    obtain ⟨e0, es', rfl, h1, h2, h3⟩ := h
    cases j with
    | zero => simp at hj; subst hj; exact ⟨x, by simp [h1], h2⟩
    | succ j => simp at hj ⊢; exact FRm_get h3 hj
theorem FRm_mem {S : Nat → Prop} {w : World} {kv : List (Value × FV)} {es : List MapEntry} {e : MapEntry} (h : FRm S w kv es) (he : e ∈ es) : ∃ x, (e.key, x) ∈ kv := by
  obtain ⟨j, hj, rfl⟩ := List.getElem_of_mem he
  obtain ⟨x, hx, _⟩ := FRm_get h (List.getElem?_eq_getElem hj)
  exact ⟨x, List.mem_of_getElem? hx⟩
theorem FRm_has {S : Nat → Prop} {w : World} : ∀ {kv : List (Value × FV)} {es : List MapEntry} {k : Value} {x : FV}, FRm S w kv es → (k, x) ∈ kv → ∃ e ∈ es, e.key = k
  | [], es, k, x, h, hm => by cases hm
  | (k0, x0) :: kv, es, k, x, h, hm => by
    simp only [FRm] at h
    obtain ⟨e0, es', rfl, h1, h2, h3⟩ := h
    rcases List.mem_cons.1 hm with e | hm
    · cases e; exact ⟨e0, by simp, h1⟩
    · obtain ⟨e, he, hk⟩ := FRm_has h3 hm
      exact ⟨e, by simp [he], hk⟩
theorem FRm_push {S : Nat → Prop} {w : World} {e : MapEntry} {x : FV} (hx : FR S w x e.val) : ∀ {kv : List (Value × FV)} {es : List MapEntry}, FRm S w kv es → FRm S w (kv ++ [(e.key, x)]) (es ++ [e])
  | [], es, h => by simp only [FRm] at h; subst h; simp only [List.nil_append, FRm]; exact ⟨e, [], rfl, rfl, hx, rfl⟩
  | (k0, x0) :: kv, es, h => by
    simp only [FRm] at h
    obtain ⟨e0, es', rfl, h1, h2, h3⟩ := h
    simp only [List.cons_append, FRm]
    exact ⟨e0, es' ++ [e], rfl, h1, h2, FRm_push hx h3⟩
theorem FRm_set {S : Nat → Prop} {w : World} {x : FV} {e : MapEntry} (hx : FR S w x e.val) : ∀ {kv : List (Value × FV)} {es : List MapEntry} (j : Nat), FRm S w kv es → FRm S w (kv.set j (e.key, x)) (es.set j e)
  | [], es, j, h => by simp only [FRm] at h; subst h; simp [FRm]
  | (k0, x0) :: kv, es, j, h => by
    simp only [FRm] at h
    obtain ⟨e0, es', rfl, h1, h2, h3⟩ := h
    cases j with
    | zero => simp only [List.set_cons_zero, FRm]; exact ⟨e, es', rfl, rfl, hx, h3⟩
    | succ j => simp only [List.set_cons_succ, FRm]; exact ⟨e0, _, rfl, h1, h2, FRm_set hx j h3⟩
/-- keys that may be looked for, each once -/
structure KeysOK (P : Program) (kt : TypeId) (kv : List (Value × FV)) : Prop where
  lits : ∀ p ∈ kv, ∃ l, keyOf P kt p.1 = some l
  apart : kv.Pairwise fun p q => p.1 ≠ q.1
theorem apart_eq : ∀ {kv : List (Value × FV)} {k : Value} {x y : FV} {j : Nat}, kv.Pairwise (fun p q => p.1 ≠ q.1) → (k, x) ∈ kv → kv[j]? = some (k, y) → y = x
  | [], _, _, _, _, _, h, _ => by cases h
  | p :: kv, k, x, y, j, hp, hm, hj => by
    obtain ⟨h1, h2⟩ := List.pairwise_cons.1 hp
    cases j with
    | zero =>
      simp at hj; subst hj
      rcases List.mem_cons.1 hm with e | hm
      · cases e; rfl
      · exact absurd rfl (h1 (k, x) hm)
    | succ j =>
      simp at hj
      rcases List.mem_cons.1 hm with e | hm
      · subst e; exact absurd rfl (h1 (k, y) (List.mem_of_getElem? hj))
      · exact apart_eq h2 hm hj
theorem apart_idx : ∀ {kv : List (Value × FV)} {k : Value} {x y : FV} {i j : Nat}, kv.Pairwise (fun p q => p.1 ≠ q.1) → kv[i]? = some (k, x) → kv[j]? = some (k, y) → i = j
  | [], _, _, _, _, _, _, h, _ => by simp at h
  | p :: kv, k, x, y, i, j, hp, hi, hj => by
    obtain ⟨h1, h2⟩ := List.pairwise_cons.1 hp
    cases i with
    | zero =>
      cases j with
      | zero => rfl
      | succ j => simp at hi hj; subst hi; exact absurd rfl (h1 (k, y) (List.mem_of_getElem? hj))
    | succ i =>
      cases j with
      | zero => simp at hi hj; subst hj; exact absurd rfl (h1 (k, x) (List.mem_of_getElem? hi))
      | succ j => simp at hi hj; rw [apart_idx h2 hi hj]
section
variable {P : Program} {w : World} {T kt e : TypeId} {b : Nat} {es : Array MapEntry} {clk : Nat} {kv : List (Value × FV)} {key : Value} {l : Lit} {S : Nat → Prop}
theorem look_hit (K : Maps.Keyed P kt) (hu : P.underlying T = some (.map kt e)) (hb : w.heap[b]? = some (.map es clk)) (hm : FRm S w kv es.toList) (ok : KeysOK P kt kv) (hkey : keyOf P kt key = some l) {x : FV} (hin : (key, x) ∈ kv) (c : Bool) :
    ∃ y, (Instr.lookup T (.map (some b)) key c).run P w = .ok (if c then .tuple #[y, .bool true] else y) w ∧ FR S w x y := by
  have hes : ∀ e ∈ es.toList, ∃ l, keyOf P kt e.key = some l := fun e he => by
    obtain ⟨x, hx⟩ := FRm_mem hm he
    exact ok.lits _ hx
  rcases K.find w hkey es.toList hes with ⟨h1, h2⟩ | ⟨j, e0, h1, h2, h3⟩
  · obtain ⟨e, he, hk⟩ := FRm_has hm hin
    exact absurd hk (h2 e he)
  · obtain ⟨y, hy, hf⟩ := FRm_get hm h2
    rw [h3] at hy
    rw [apart_eq ok.apart hin hy] at hf
    exact ⟨e0.val, by simp [Instr.lookup, run_underlying hu, MapKept.run_getObj_map hb, K.check w _ hkey, h1, Result.andThen], hf⟩
theorem look_miss (K : Maps.Keyed P kt) (hu : P.underlying T = some (.map kt e)) (hb : w.heap[b]? = some (.map es clk)) (hm : FRm S w kv es.toList) (ok : KeysOK P kt kv) (hkey : keyOf P kt key = some l) (hno : ∀ p ∈ kv, p.1 ≠ key)
    {z : Value} (hz : (zeroValue e).run P w = .ok z w) (c : Bool) :
    (Instr.lookup T (.map (some b)) key c).run P w = .ok (if c then .tuple #[z, .bool false] else z) w := by
  have hes : ∀ e ∈ es.toList, ∃ l, keyOf P kt e.key = some l := fun e he => by
    obtain ⟨x, hx⟩ := FRm_mem hm he
    exact ok.lits _ hx
  rcases K.find w hkey es.toList hes with ⟨h1, h2⟩ | ⟨j, e0, h1, h2, h3⟩
  · simp [Instr.lookup, run_underlying hu, MapKept.run_getObj_map hb, K.check w _ hkey, h1, hz, Result.andThen]
  · obtain ⟨y, hy, hf⟩ := FRm_get hm h2
    rw [h3] at hy
    exact absurd rfl (hno _ (List.mem_of_getElem? hy))
theorem put_hit (K : Maps.Keyed P kt) (hu : P.underlying T = some (.map kt e)) (hb : w.heap[b]? = some (.map es clk)) (hm : FRm S w kv es.toList) (ok : KeysOK P kt kv) (hkey : keyOf P kt key = some l) {i : Nat} {x0 : FV} (hin : kv[i]? = some (key, x0)) (v : Value) :
    ∃ e', e'.key = key ∧ e'.val = v ∧ (∃ e0 ∈ es.toList, e'.born = e0.born) ∧ (Instr.mapUpdate T (.map (some b)) key v).run P w = .ok () (setBlock w b (.map (es.set! i e') clk)) ∧ (es.set! i e').toList = es.toList.set i e' := by
  have hes : ∀ e ∈ es.toList, ∃ l, keyOf P kt e.key = some l := fun e he => by
    obtain ⟨x, hx⟩ := FRm_mem hm he
    exact ok.lits _ hx
  rcases K.find w hkey es.toList hes with ⟨h1, h2⟩ | ⟨j, e0, h1, h2, h3⟩
  · obtain ⟨e, he, hk⟩ := FRm_has hm (List.mem_of_getElem? hin)
    exact absurd hk (h2 e he)
  · obtain ⟨y, hy, hf⟩ := FRm_get hm h2
    rw [h3] at hy
    have hij : i = j := apart_idx ok.apart hin hy
    subst hij
    have hj : es[i]? = some e0 := by simpa using h2
    refine ⟨{ e0 with key, val := v }, rfl, rfl, ⟨e0, List.mem_of_getElem? h2, rfl⟩, ?_, by simp⟩
    have hmod : es.modify i (fun e => { e with key, val := v }) = es.set! i { e0 with key, val := v } := by
      apply Array.ext_getElem?
      intro q
      rw [Array.getElem?_modify]
      simp only [Array.set!_eq_setIfInBounds, Array.getElem?_setIfInBounds]
      split
      · rename_i e; subst e
        have hlt : i < es.size := by
          rcases Nat.lt_or_ge i es.size with h | h
          · exact h
          · rw [Array.getElem?_eq_none h] at hj; cases hj
        rw [hj, if_pos hlt]
        rfl
      · rfl
    simp [Instr.mapUpdate, run_underlying hu, MapKept.run_getObj_map hb, K.check w _ hkey, h1, hj, h3, K.stays w hkey, MapKept.run_setObj_map _ hb, Result.andThen, setBlock, hmod]
theorem put_miss (K : Maps.Keyed P kt) (hu : P.underlying T = some (.map kt e)) (hb : w.heap[b]? = some (.map es clk)) (hm : FRm S w kv es.toList) (ok : KeysOK P kt kv) (hkey : keyOf P kt key = some l) (hno : ∀ p ∈ kv, p.1 ≠ key) (v : Value) :
    ∃ e', e'.key = key ∧ e'.val = v ∧ e'.born = clk ∧ (Instr.mapUpdate T (.map (some b)) key v).run P w = .ok () (setBlock w b (.map (es.push e') (clk + 1))) := by
  have hes : ∀ e ∈ es.toList, ∃ l, keyOf P kt e.key = some l := fun e he => by
    obtain ⟨x, hx⟩ := FRm_mem hm he
    exact ok.lits _ hx
  rcases K.find w hkey es.toList hes with ⟨h1, h2⟩ | ⟨j, e0, h1, h2, h3⟩
  · exact ⟨{ key, val := v, born := clk }, rfl, rfl, rfl, by simp [Instr.mapUpdate, run_underlying hu, MapKept.run_getObj_map hb, K.check w _ hkey, h1, MapKept.run_setObj_map _ hb, Result.andThen, setBlock]⟩
  · obtain ⟨y, hy, hf⟩ := FRm_get hm h2
    rw [h3] at hy
    exact absurd rfl (hno _ (List.mem_of_getElem? hy))
theorem setBlock_only (w : World) (b : Nat) (ob : Obj) : Only w (setBlock w b ob) b where
  heap c hc := by simp [setBlock, Array.getElem?_setIfInBounds, Ne.symm hc]
  size := by simp [setBlock]
  os := rfl
  tape := rfl
  output := rfl
theorem setBlock_at (w : World) (b : Nat) (ob : Obj) (h : b < w.heap.size) : (setBlock w b ob).heap[b]? = some ob := by
  simp [setBlock, Array.getElem?_setIfInBounds, h]
end
section
variable {C : Cx} {n : Nat} {all os : List Oper} {o : Oper} {k : List Item} {σ : St}
/-- a map is made -/
theorem AW.newMap {T : TypeId} (hgd : o.guard = none) (ho : o.op = .makeMap T none) (hk : AWn C n all os k (St.put ⟨σ.t, (σ.n, .map []) :: σ.h, σ.n + 1⟩ o.dst (.mp σ.n))) : AW C all (o :: os) k σ := by
  refine AW.op' hgd (fun ι S a w hs => ?_) hk
  refine ⟨.map (some w.heap.size), w.alloc (.map #[] 0), _, S, .inl ?_, hs.alloc (cap := 0) ⟨w.heap.size, #[], 0, rfl, heap_new _ _, by simp [FRm], by simp⟩, ?_⟩
  · simp [execOp, ho, Instr.makeMap]
  · simp only [VR]; exact ⟨Nat.lt_succ_self _, w.heap.size, by rw [ext_new], rfl⟩
theorem map_at {ι : Nat → Loc} {S : Nat → Prop} {a : Act} {w : World} {x : Operand} {id : Nat} {kv : List (Value × FV)} {E : Ent} {N : Nat} (hs : Sim E N σ ι S a w) (hx : ev σ x = some (true, .mp id)) (hl : lk id σ.h = some (.map kv)) :
    ∃ b es clk, a.eval x = .map (some b) ∧ (ι id).b = some b ∧ w.heap[b]? = some (.map es clk) ∧ FRm S w kv es.toList ∧ ∀ e ∈ es.toList, e.born < clk := by
  have e1 := ev_sound hs hx rfl
  simp only [VR] at e1
  obtain ⟨_, b, hb, e1⟩ := e1
  obtain ⟨_, b', es, clk, hb', hh, hm, hbn⟩ := hs.mem.obj id _ hl
  rw [hb] at hb'; simp only [Option.some.injEq] at hb'; subst hb'
  exact ⟨b, es, clk, e1, hb, hh, hm, hbn⟩
/-- what a map has at a key -/
theorem AW.mapHit {T kt e : TypeId} {x ix : Operand} {c : Bool} {id : Nat} {kv : List (Value × FV)} {K : AV} {key : Value} {l : Lit} {v : FV} (hgd : o.guard = none) (ho : o.op = .lookup T x ix c) (hx : ev σ x = some (true, .mp id)) (hl : lk id σ.h = some (.map kv))
    (hix : ev σ ix = some (true, K)) (hK : keyV K = some key) (hu : C.P.underlying T = some (.map kt e)) (KL : Maps.Keyed C.P kt) (ok : KeysOK C.P kt kv) (hkey : keyOf C.P kt key = some l) (hin : (key, v) ∈ kv)
    (hk : AWn C n all os k (σ.put o.dst (if c then .tup [.f v, .s (.bool true)] else .f v))) : AW C all (o :: os) k σ := by
  refine AW.op _ hgd (fun ι S a w hs => ?_) hk
  obtain ⟨b, es, clk, e1, hb, hh, hm, hbn⟩ := map_at hs hx hl
  have e2 := keyV_sound hK (ev_sound hs hix rfl)
  obtain ⟨y, hr, hf⟩ := look_hit KL hu hh hm ok hkey hin c
  refine .same hs (y := if c then .tuple #[y, .bool true] else y) ?_ ?_
  · simp [execOp, ho, e1, e2, hr]
  · cases c
    · simpa [VR] using hf
    · simp only [if_true, VR, VRs]
      exact ⟨_, rfl, _, _, rfl, hf, _, _, rfl, by simp [AV.s, VR, FR, Value.oneCell'], rfl⟩
theorem AW.mapMiss {T kt e : TypeId} {x ix : Operand} {c : Bool} {id : Nat} {kv : List (Value × FV)} {K : AV} {key : Value} {l : Lit} {ke : TK} (hgd : o.guard = none) (ho : o.op = .lookup T x ix c) (hx : ev σ x = some (true, .mp id)) (hl : lk id σ.h = some (.map kv))
    (hix : ev σ ix = some (true, K)) (hK : keyV K = some key) (hu : C.P.underlying T = some (.map kt e)) (KL : Maps.Keyed C.P kt) (ok : KeysOK C.P kt kv) (hkey : keyOf C.P kt key = some l) (hno : ∀ p ∈ kv, p.1 ≠ key) (hz : tk C.P e = some ke)
    (hk : AWn C n all os k (σ.put o.dst (if c then .tup [.f ke.zero, .s (.bool false)] else .f ke.zero))) : AW C all (o :: os) k σ := by
  refine AW.op _ hgd (fun ι S a w hs => ?_) hk
  obtain ⟨b, es, clk, e1, hb, hh, hm, hbn⟩ := map_at hs hx hl
  have e2 := keyV_sound hK (ev_sound hs hix rfl)
  obtain ⟨i, z, hi, hzz, _, hf, _⟩ := zero_cells (S := S) (w := w) hz
  have hzr : (zeroValue e).run C.P w = .ok z w := by simp [zeroValue, typeInfo, hi, hzz]
  have hr := look_miss KL hu hh hm ok hkey hno hzr c
  refine .same hs (y := if c then .tuple #[z, .bool false] else z) ?_ ?_
  · simp [execOp, ho, e1, e2, hr]
  · cases c
    · simpa [VR] using hf
    · simp only [if_true, VR, VRs]
      exact ⟨_, rfl, _, _, rfl, hf, _, _, rfl, by simp [AV.s, VR, FR, Value.oneCell'], rfl⟩
/-- a new key is put into a map -/
theorem AW.mapPut {T kt e : TypeId} {x ix y : Operand} {id : Nat} {kv : List (Value × FV)} {K : AV} {key : Value} {l : Lit} {v : FV} (hgd : o.guard = none) (ho : o.op = .mapUpdate T x ix y) (hx : ev σ x = some (true, .mp id)) (hl : lk id σ.h = some (.map kv))
    (hix : ev σ ix = some (true, K)) (hK : keyV K = some key) (hy : ev σ y = some (true, .f v)) (hu : C.P.underlying T = some (.map kt e)) (KL : Maps.Keyed C.P kt) (ok : KeysOK C.P kt kv) (hkey : keyOf C.P kt key = some l) (hno : ∀ p ∈ kv, p.1 ≠ key)
    (hk : AWn C n all os k (St.put ⟨σ.t, hset id (.map (kv ++ [(key, v)])) σ.h, σ.n⟩ o.dst (.g (.tup [])))) : AW C all (o :: os) k σ := by
  refine AW.op' hgd (fun ι S a w hs => ?_) hk
  obtain ⟨b, es, clk, e1, hb, hh, hm, hbn⟩ := map_at hs hx hl
  have e2 := keyV_sound hK (ev_sound hs hix rfl)
  have e3 := ev_sound hs hy rfl
  simp only [VR] at e3
  obtain ⟨e', k1, k2, k3, hr⟩ := put_miss KL hu hh hm ok hkey hno (a.eval y)
  have hlt := (hs.mem.own id _ b hl hb).1
  have hbs := (hs.mem.own id _ b hl hb).2.1
  have hstay : ∀ c, S c → (setBlock w b (.map (es.push e') (clk + 1))).heap[c]? = w.heap[c]? := fun c hc => (setBlock_only w b _).heap c fun h => hbs (h ▸ hc)
  have hs' := hs.upd (o' := .map (kv ++ [(key, v)])) hl hb (setBlock_only w b (.map (es.push e') (clk + 1))) ?_
  · refine ⟨undef, _, ι, S, .inr ⟨?_, rfl⟩, hs', by simp only [VR]⟩
    simp [execOp, ho, e1, e2, hr]
  · refine ⟨b, _, _, hb, setBlock_at w b _ hlt, ?_, fun e he => ?_⟩
    rotate_left
    · rw [Array.toList_push] at he
      rcases List.mem_append.1 he with he | he
      · have := hbn e he; omega
      · simp only [List.mem_singleton] at he; subst he; omega
    rw [Array.toList_push, ← k1]
    exact FRm_push (by rw [k2]; exact FR.mono (fun _ h => h) hstay e3) (FRm.mono (fun _ h => h) hstay hm)
/-- a key's value in a map is another one -/
theorem AW.mapSet {T kt e : TypeId} {x ix y : Operand} {id i : Nat} {kv : List (Value × FV)} {K : AV} {key : Value} {l : Lit} {v x0 : FV} (hgd : o.guard = none) (ho : o.op = .mapUpdate T x ix y) (hx : ev σ x = some (true, .mp id)) (hl : lk id σ.h = some (.map kv))
    (hix : ev σ ix = some (true, K)) (hK : keyV K = some key) (hy : ev σ y = some (true, .f v)) (hu : C.P.underlying T = some (.map kt e)) (KL : Maps.Keyed C.P kt) (ok : KeysOK C.P kt kv) (hkey : keyOf C.P kt key = some l) (hin : kv[i]? = some (key, x0))
    (hk : AWn C n all os k (St.put ⟨σ.t, hset id (.map (kv.set i (key, v))) σ.h, σ.n⟩ o.dst (.g (.tup [])))) : AW C all (o :: os) k σ := by
  refine AW.op' hgd (fun ι S a w hs => ?_) hk
  obtain ⟨b, es, clk, e1, hb, hh, hm, hbn⟩ := map_at hs hx hl
  have e2 := keyV_sound hK (ev_sound hs hix rfl)
  have e3 := ev_sound hs hy rfl
  simp only [VR] at e3
  obtain ⟨e', k1, k2, ⟨e0, he0, k3⟩, hr, hset⟩ := put_hit KL hu hh hm ok hkey hin (a.eval y)
  have hlt := (hs.mem.own id _ b hl hb).1
  have hbs := (hs.mem.own id _ b hl hb).2.1
  have hstay : ∀ c, S c → (setBlock w b (.map (es.set! i e') clk)).heap[c]? = w.heap[c]? := fun c hc => (setBlock_only w b _).heap c fun h => hbs (h ▸ hc)
  have hs' := hs.upd (o' := .map (kv.set i (key, v))) hl hb (setBlock_only w b (.map (es.set! i e') clk)) ?_
  · refine ⟨undef, _, ι, S, .inr ⟨?_, rfl⟩, hs', by simp only [VR]⟩
    simp [execOp, ho, e1, e2, hr]
  · refine ⟨b, _, _, hb, setBlock_at w b _ hlt, ?_, fun e he => ?_⟩
    rotate_left
    · rw [hset] at he
      rcases List.mem_or_eq_of_mem_set he with he | rfl
      · exact hbn e he
      · rw [k3]; exact hbn e0 he0
    rw [hset, ← k1]
    exact FRm_set (by rw [k2]; exact FR.mono (fun _ h => h) hstay e3) i (FRm.mono (fun _ h => h) hstay hm)
theorem FRm_len {S : Nat → Prop} {w : World} : ∀ {kv : List (Value × FV)} {es : List MapEntry}, FRm S w kv es → es.length = kv.length
  | [], es, h => by simp only [FRm] at h; subst h; rfl
  | (k0, x0) :: kv, es, h => by
    simp only [FRm] at h
    obtain ⟨e0, es', rfl, _, _, h3⟩ := h
    simp [FRm_len h3]
/-- how many keys a map has -/
theorem AW.lenMap {T kt e : TypeId} {x : Operand} {id : Nat} {kv : List (Value × FV)} (hgd : o.guard = none) (ho : o.op = .call { callee := .builtin .len, args := #[x], argTypes := #[T] }) (hx : ev σ x = some (true, .mp id)) (hl : lk id σ.h = some (.map kv))
    (hu : C.P.underlying T = some (.map kt e)) (hk : AWn C n all os k (σ.put o.dst (.s (.int .i64 kv.length)))) : AW C all (o :: os) k σ := by
  refine AW.op _ hgd (fun ι S a w hs => ?_) hk
  obtain ⟨b, es, clk, e1, hb, hh, hm, hbn⟩ := map_at hs hx hl
  have hlen : es.size = kv.length := by rw [← FRm_len hm]; simp
  refine .same hs (y := .int .i64 kv.length) ?_ (mk_v rfl)
  simp [execOp, ho, resolve, invoke, builtin, e1, Builtin.len_, run_underlying hu, MapKept.run_getObj_map hh, hlen, goInt]
/-- an operation shown by hand, whose value is known only as it runs -/
theorem AW.opE (hgd : o.guard = none) (h : ∀ ι S a w, Sim C.E C.N σ ι S a w → ∃ v σ', Good C.P C.E C.N a w (execOp a.eval o) v σ' ∧ AWn C n all os k (σ'.put o.dst v)) : AW C all (o :: os) k σ := by
  intro ok hsuf hok hki ι S a w hs
  have hd := okOps_mem hok (hsuf.subset (List.mem_cons_self ..))
  have hsuf' : os <:+ all := (List.suffix_cons o os).trans hsuf
  have hg : guardOf all σ o.guard = some true := by rw [hgd]; rfl
  obtain ⟨v, σ', hgood, hk⟩ := h ι S a w hs
  refine at_step (σ := σ) ?_ ?_ hs hg hsuf hok
  · intro c' hc' _
    refine wp_of_good hgood hd ?_
    intro ι' S' a' w' hs'
    exact AWn_sound _ _ _ _ _ hk ok hsuf' hok hki ι' S' a' w' hs'
  · intro c' hc' hct
    rw [hg] at hc'; simp only [Option.some.injEq] at hc'
    rw [← hc'] at hct; cases hct
/-- the entry of a new key -/
theorem AW.mapEntry {T kt e : TypeId} {x ix : Operand} {id : Nat} {kv : List (Value × FV)} {K : AV} {key : Value} {l : Lit} {ke : TK} (hgd : o.guard = none) (ho : o.op = .mapEntry T x ix) (hx : ev σ x = some (true, .mp id)) (hl : lk id σ.h = some (.map kv))
    (hix : ev σ ix = some (true, K)) (hK : keyV K = some key) (hu : C.P.underlying T = some (.map kt e)) (KL : Maps.Keyed C.P kt) (ok : KeysOK C.P kt kv) (hkey : keyOf C.P kt key = some l) (hno : ∀ p ∈ kv, p.1 ≠ key) (hz : tk C.P e = some ke)
    (hk : ∀ st : Nat, AWn C n all os k (St.put ⟨σ.t, hset id (.mape (kv ++ [(key, ke.zero)]) st) σ.h, σ.n⟩ o.dst (.tup [.f ke.zero, .s (.int .i64 st)]))) : AW C all (o :: os) k σ := by
  refine AW.opE (n := n) hgd fun ι S a w hs => ?_
  obtain ⟨b, es, clk, e1, hb, hh, hm, hbn⟩ := map_at hs hx hl
  have e2 := keyV_sound hK (ev_sound hs hix rfl)
  refine ⟨_, _, ?_, hk clk⟩
  obtain ⟨i, z, hi, hzz, _, hf, _⟩ := zero_cells (S := S) (w := w) hz
  have hzr : (zeroValue e).run C.P w = .ok z w := by simp [zeroValue, typeInfo, hi, hzz]
  have hes : ∀ e ∈ es.toList, ∃ l, keyOf C.P kt e.key = some l := fun e he => by
    obtain ⟨x, hx⟩ := FRm_mem hm he
    exact ok.lits _ hx
  rcases KL.find w hkey es.toList hes with ⟨h1, h2⟩ | ⟨j, e0, h1, h2, h3⟩
  · have hlt := (hs.mem.own id _ b hl hb).1
    have hbs := (hs.mem.own id _ b hl hb).2.1
    let e' : MapEntry := { key, val := z, born := clk }
    have hr : (Instr.mapEntry T (.map (some b)) key).run C.P w = .ok (.tuple #[z, .int .i64 clk]) (setBlock w b (.map (es.push e') (clk + 1))) := by
      simp [Instr.mapEntry, run_underlying hu, MapKept.run_getObj_map hh, KL.check w _ hkey, h1, hzr, MapKept.run_setObj_map _ hh, Result.andThen, setBlock, goInt, e']
    have hstay : ∀ c, S c → (setBlock w b (.map (es.push e') (clk + 1))).heap[c]? = w.heap[c]? := fun c hc => (setBlock_only w b _).heap c fun h => hbs (h ▸ hc)
    have hz' : FR S (setBlock w b (.map (es.push e') (clk + 1))) ke.zero z := FR.mono (fun _ h => h) hstay hf
    have hs' := hs.upd (o' := .mape (kv ++ [(key, ke.zero)]) clk) hl hb (setBlock_only w b (.map (es.push e') (clk + 1))) ?_
    · refine ⟨.tuple #[z, .int .i64 clk], _, ι, S, .inl ?_, hs', ?_⟩
      · simp [execOp, ho, e1, e2, hr]
      · simp only [VR, VRs]
        exact ⟨_, rfl, _, _, rfl, hz', _, _, rfl, by simp [AV.s, VR, FR, Value.oneCell'], rfl⟩
    · refine ⟨b, es, clk + 1, e', hb, setBlock_at w b _ hlt, ?_, rfl, by omega, hbn⟩
      rw [Array.toList_push]
      exact FRm_push (e := e') hz' (FRm.mono (fun _ h => h) hstay hm)
  · obtain ⟨y, hy, hf⟩ := FRm_get hm h2
    rw [h3] at hy
    exact absurd rfl (hno _ (List.mem_of_getElem? hy))
/-- .. and its value -/
theorem AW.entryStore {T : TypeId} {x ix y : Operand} {id st : Nat} {kv : List (Value × FV)} {key : Value} {z v : FV} (hgd : o.guard = none) (ho : o.op = .entryStore T x ix y) (hx : ev σ x = some (true, .mp id)) (hl : lk id σ.h = some (.mape (kv ++ [(key, z)]) st))
    (hix : ev σ ix = some (true, .s (.int .i64 st))) (hy : ev σ y = some (true, .f v))
    (hk : AWn C n all os k (St.put ⟨σ.t, hset id (.map (kv ++ [(key, v)])) σ.h, σ.n⟩ o.dst (.g (.tup [])))) : AW C all (o :: os) k σ := by
  refine AW.op' hgd (fun ι S a w hs => ?_) hk
  have e1 := ev_sound hs hx rfl
  simp only [VR] at e1
  obtain ⟨_, b, hb, e1⟩ := e1
  obtain ⟨_, b', es, clk, e0, hb', hh, hm, hst, hlt', hbn⟩ := hs.mem.obj id _ hl
  rw [hb] at hb'; simp only [Option.some.injEq] at hb'; subst hb'
  have e2 := vr_v (ev_sound hs hix rfl)
  have e3 := ev_sound hs hy rfl
  simp only [VR] at e3
  have hlt := (hs.mem.own id _ b hl hb).1
  have hbs := (hs.mem.own id _ b hl hb).2.1
  have hidx : (es.push e0).findIdx? (fun e => (e.born : Int) == (st : Int)) = some es.size := by
    rw [Array.findIdx?_eq_some_iff_getElem]
    refine ⟨by simp, by simp [hst], fun j hj => ?_⟩
    have hje : (es.push e0)[j]'(by simp; omega) = es[j] := Array.getElem_push_lt hj
    have := hbn es[j] (by simp)
    rw [hje]
    simp
    omega
  have hmod : (es.push e0).modify es.size (fun e => { e with val := a.eval y }) = es.push { e0 with val := a.eval y } := by
    apply Array.ext
    · simp
    · intro i h1 h2
      simp only [Array.getElem_modify, Array.getElem_push]
      simp at h2
      by_cases hi : i < es.size
      · simp [hi]; intro e; omega
      · have : i = es.size := by omega
        subst this; simp
  have hr : (Instr.entryStore T (.map (some b)) (.int .i64 st) (a.eval y)).run C.P w = .ok () (setBlock w b (.map (es.push { e0 with val := a.eval y }) clk)) := by
    simp [Instr.entryStore, MapKept.run_getObj_map hh, asInt, asIntOf, hidx, MapKept.run_setObj_map _ hh, setBlock, hmod, Result.andThen]
  have hstay : ∀ c, S c → (setBlock w b (.map (es.push { e0 with val := a.eval y }) clk)).heap[c]? = w.heap[c]? := fun c hc => (setBlock_only w b _).heap c fun h => hbs (h ▸ hc)
  have hs' := hs.upd (o' := .map (kv ++ [(key, v)])) hl hb (setBlock_only w b (.map (es.push { e0 with val := a.eval y }) clk)) ?_
  · refine ⟨undef, _, ι, S, .inr ⟨?_, rfl⟩, hs', by simp only [VR]⟩
    simp [execOp, ho, e1, e2, hr]
  · refine ⟨b, _, _, hb, setBlock_at w b _ hlt, ?_, fun e he => ?_⟩
    · rw [Array.toList_push] at hm ⊢
      have hsplit : ∀ {kv : List (Value × FV)} {es : List MapEntry}, FRm S w (kv ++ [(key, z)]) (es ++ [e0]) → FRm S w kv es ∧ e0.key = key := by
        intro kv
        induction kv with
        | nil =>
          intro es h
          simp only [List.nil_append, FRm] at h
          obtain ⟨e, es', he, h1, _, h3⟩ := h
          subst h3
          cases es with
          | nil => simp at he; subst he; exact ⟨by simp [FRm], h1⟩
          | cons x es => simp at he
        | cons p kv ih =>
          intro es h
          obtain ⟨pk, px⟩ := p
          simp only [List.cons_append, FRm] at h
          obtain ⟨e, es', he, h1, h2, h3⟩ := h
          cases es with
          | nil =>
            simp at he
            obtain ⟨rfl, rfl⟩ := he
            cases kv <;> simp [FRm] at h3
          | cons x es =>
            simp at he
            obtain ⟨rfl, rfl⟩ := he
            obtain ⟨h4, h5⟩ := ih h3
            exact ⟨by simp only [FRm]; exact ⟨x, es, rfl, h1, h2, h4⟩, h5⟩
      obtain ⟨hm1, hkey⟩ := hsplit hm
      rw [← hkey]
      exact FRm_push (e := { e0 with val := a.eval y }) (FR.mono (fun _ h => h) hstay e3) (FRm.mono (fun _ h => h) hstay hm1)
    · rw [Array.toList_push] at he
      rcases List.mem_append.1 he with he | he
      · have := hbn e he; omega
      · simp only [List.mem_singleton] at he; subst he; simp only; omega
theorem AL.unroll {c : Code} (n : Nat) (h : AWn C n [] [] (.code c :: .inLoop c :: k) σ) : AL C c k σ := AWn_sound n _ _ _ _ h
end
end Go.Fw

set_option linter.unusedVariables false
namespace Go.Fw
open Go
mutual
/-- pointers into an owned box, told by what it holds -/
def bxV (id : Nat) (x : FV) : AV → AV
  | .ptr i off => match i == id with
    | true => .f (.p x off)
    | false => .ptr i off
  | .agg ys => .agg (bxVs id x ys)
  | .tup ys => .tup (bxVs id x ys)
  | .clo q a b => .clo q (bxVs id x a) (bxVs id x b)
  | v => v
def bxVs (id : Nat) (x : FV) : List AV → List AV
  | [] => []
  | y :: ys => bxV id x y :: bxVs id x ys
end
def bxO (id : Nat) (x : FV) : AO → AO
  | .cells T cs => .cells T (bxVs id x cs)
  | o => o
def bxT (id : Nat) (x : FV) : List (Nat × AV) → List (Nat × AV)
  | [] => []
  | (i, v) :: l => (i, bxV id x v) :: bxT id x l
def bxH (id : Nat) (x : FV) : Heap → Heap
  | [] => []
  | (i, o) :: l => match i == id with
    | true => bxH id x l
    | false => (i, bxO id x o) :: bxH id x l
theorem lk_bxT (id : Nat) (x : FV) : ∀ (l : List (Nat × AV)) (t : Nat), lk t (bxT id x l) = (lk t l).map (bxV id x)
  | [], t => rfl
  | (i, v) :: l, t => by
    simp only [bxT, lk_cons]
    split
    · rfl
    · exact lk_bxT id x l t
theorem lk_bxH (id : Nat) (x : FV) : ∀ (l : Heap) (t : Nat), lk t (bxH id x l) = if t = id then none else (lk t l).map (bxO id x)
  | [], t => by simp [bxH, lk]
  | (i, v) :: l, t => by
    simp only [bxH]
    split
    · rename_i e
      simp only [beq_iff_eq] at e; subst e
      rw [lk_bxH i x l t, lk_cons]
      split <;> rfl
    · rename_i e
      simp only [beq_eq_false_iff_ne] at e
      simp only [lk_cons]
      rw [lk_bxH id x l t]
      by_cases h1 : t = i
      · subst h1
        simp only [if_true, if_neg e, Option.map_some]
      · simp only [if_neg h1]
section
variable {S S' : Nat → Prop} {ι : Nat → Loc} {n : Nat} {w : World} {id : Nat} {x : FV}
mutual
theorem bxV_sound (hS : ∀ b, S b → S' b) (hbx : ∀ off y, VR S ι n w (.ptr id off) y → FR S' w (.p x off) y) : ∀ (v : AV) {y : Value}, VR S ι n w v y → VR S' ι n w (bxV id x v) y
  | .ptr i off, y, h => by
    simp only [bxV]
    split
    · rename_i e
      simp only [beq_iff_eq] at e
      subst e
      simp only [VR]
      exact hbx off y h
    · exact h.mono hS (fun _ _ => rfl) (Nat.le_refl _) (fun _ _ => rfl)
  | .agg ys, y, h => by
    simp only [bxV, VR] at h ⊢
    obtain ⟨vs, e, h1, h2⟩ := h
    exact ⟨vs, e, bxVs_sound hS hbx ys h1, h2⟩
  | .tup ys, y, h => by
    simp only [bxV, VR] at h ⊢
    obtain ⟨vs, e, h1⟩ := h
    exact ⟨vs, e, bxVs_sound hS hbx ys h1⟩
  | .clo q a b, y, h => by
    simp only [bxV, VR] at h ⊢
    obtain ⟨fs, cs, e, h1, h2⟩ := h
    exact ⟨fs, cs, e, bxVs_sound hS hbx a h1, bxVs_sound hS hbx b h2⟩
  | .f _, y, h => by simp only [bxV]; exact h.mono hS (fun _ _ => rfl) (Nat.le_refl _) (fun _ _ => rfl)
  | .sl _ _ _ _, y, h => by simp only [bxV]; exact h.mono hS (fun _ _ => rfl) (Nat.le_refl _) (fun _ _ => rfl)
  | .rp _ _ _ _, y, h => by simp only [bxV]; exact h.mono hS (fun _ _ => rfl) (Nat.le_refl _) (fun _ _ => rfl)
  | .mp _, y, h => by simp only [bxV]; exact h.mono hS (fun _ _ => rfl) (Nat.le_refl _) (fun _ _ => rfl)
  | .it _, y, h => by simp only [bxV]; exact h.mono hS (fun _ _ => rfl) (Nat.le_refl _) (fun _ _ => rfl)
  | .g _, y, h => by simp only [bxV]; exact h.mono hS (fun _ _ => rfl) (Nat.le_refl _) (fun _ _ => rfl)
theorem bxVs_sound (hS : ∀ b, S b → S' b) (hbx : ∀ off y, VR S ι n w (.ptr id off) y → FR S' w (.p x off) y) : ∀ (vs : List AV) {ys : List Value}, VRs S ι n w vs ys → VRs S' ι n w (bxVs id x vs) ys
  | [], ys, h => by simpa only [bxVs, VRs] using h
  | v :: vs, ys, h => by
    simp only [bxVs, VRs] at h ⊢
    obtain ⟨y, ys', e, h1, h2⟩ := h
    exact ⟨y, ys', e, bxV_sound hS hbx v h1, bxVs_sound hS hbx vs h2⟩
end
theorem frs_of_vrs : ∀ {fs : List FV} {ys : List Value}, VRs S ι n w (fs.map .f) ys → FRs S w fs ys
  | [], ys, h => by simpa only [List.map_nil, VRs, FRs] using h
  | f :: fs, ys, h => by
    simp only [List.map_cons, VRs, VR, FRs] at h ⊢
    obtain ⟨y, ys', e, h1, h2⟩ := h
    exact ⟨y, ys', e, h1, frs_of_vrs h2⟩
end
/-- an owned box is frozen -/
theorem Imp.box {E : Ent} {σ : St} (id : Nat) {T : TypeId} (fs : List FV) (x : FV) (hx : x = .agg fs ∨ fs = [x]) (h : lk id σ.h = some (.cells T (fs.map .f))) : Imp E σ ⟨bxT id x σ.t, bxH id x σ.h, σ.n⟩ := by
  intro N ι S a w hs
  obtain ⟨hid, b0, vs0, hb0, hh0, hv0, hone0⟩ := hs.mem.obj id _ h
  let S' : Nat → Prop := fun b => S b ∨ (ι id).b = some b
  have hS : ∀ b, S b → S' b := fun b h => .inl h
  have hbx : ∀ off y, VR S ι σ.n w (.ptr id off) y → FR S' w (.p x off) y := by
    intro off y hv
    simp only [VR] at hv
    obtain ⟨_, b, hb, rfl⟩ := hv
    rw [hb0] at hb; simp only [Option.some.injEq] at hb; subst hb
    have hf := (frs_of_vrs hv0).mono (S' := S') (w' := w) hS (fun _ _ => rfl)
    simp only [FR]
    rcases hx with rfl | rfl
    · exact ⟨b0, 0, vs0, T, _, .agg vs0, by simp, .inr hb0, hh0, by simp only [FR]; exact ⟨vs0, rfl, hf, hone0⟩, by simp only [Value.cells, List.drop_zero]; exact List.take_of_length_le (by simp), by simpa [Value.cells] using hone0⟩
    · simp only [FRs] at hf
      obtain ⟨z, zs, e, hz, rfl⟩ := hf
      have hzone := hone0 z (by rw [e]; simp)
      have hzc : z.cells = #[z] := by cases z <;> first | rfl | simp [Value.oneCell'] at hzone
      exact ⟨b0, 0, vs0, T, _, z, by simp, .inr hb0, hh0, hz, by rw [hzc, e]; simp, by rw [hzc]; simpa using hzone⟩
  have hmem := (hs.mem.del id).more (S' := S') hS (by
    rintro b (hb | hb)
    · exact .inl hb
    · refine .inr ⟨(hs.mem.own id _ b h hb).1, (hs.mem.own id _ b h hb).2.2, fun id' o' hl' hb' => ?_⟩
      rw [lk_hdel] at hl'
      split at hl'
      · cases hl'
      · rename_i hne
        exact hne (hs.mem.inj id' id o' _ b hl' h hb' hb))
  have back : ∀ i o, lk i (bxH id x σ.h) = some o → ∃ o0, lk i (hdel id σ.h) = some o0 ∧ lk i σ.h = some o0 ∧ o = bxO id x o0 := by
    intro i o hl
    rw [lk_bxH] at hl
    split at hl
    · cases hl
    · rename_i hne
      cases ho' : lk i σ.h with
      | none => rw [ho'] at hl; cases hl
      | some o0 =>
        rw [ho'] at hl
        simp only [Option.map_some, Option.some.injEq] at hl
        exact ⟨o0, by rw [lk_hdel, if_neg hne]; exact ho', rfl, hl.symm⟩
  refine ⟨ι, S', ?_, hs.tsz, ?_, hs.def0⟩
  · exact
    { obj := fun i o hl => by
        obtain ⟨o0, h1, h2, rfl⟩ := back i o hl
        refine ⟨(hmem.obj i o0 h1).1, ?_⟩
        cases o0 with
        | cells U cs =>
          obtain ⟨_, b, vs, hb, hh, hv, hone⟩ := hs.mem.obj i _ h2
          exact ⟨b, vs, hb, hh, bxVs_sound hS hbx cs hv, hone⟩
        | row => exact (hmem.obj i _ h1).2
        | map => exact (hmem.obj i _ h1).2
        | mape => exact (hmem.obj i _ h1).2
        | siter => exact (hmem.obj i _ h1).2
      own := fun i o b hl hb => by
        obtain ⟨o0, h1, _⟩ := back i o hl
        exact hmem.own i o0 b h1 hb
      inj := fun i i' o o' b hl hl' hb hb' => by
        obtain ⟨o0, h1, _⟩ := back i o hl
        obtain ⟨o1, h1', _⟩ := back i' o' hl'
        exact hmem.inj i i' _ _ b h1 h1' hb hb'
      slt := hmem.slt
      ssub := hmem.ssub
      ssup := hmem.ssup
      keep := hmem.keep
      size := hmem.size
      os := hmem.os
      tape := hmem.tape
      output := hmem.output
      names := hmem.names
      same := hmem.same }
  · intro t v hl
    rw [lk_bxT] at hl
    cases hv : lk t σ.t with
    | none => rw [hv] at hl; cases hl
    | some v0 =>
      rw [hv] at hl
      simp only [Option.map_some, Option.some.injEq] at hl
      subst hl
      exact bxV_sound hS hbx v0 (hs.tm t v0 hv)
end Go.Fw

set_option linter.unusedVariables false
namespace Go.Fw
open Go

/-- an operation goes from one heap to another, from wherever it is ready -/
def StepX (C : Cx) (L : List Oper) (k : List Item) (h h' : Heap) (m m' : Nat) (o : Oper) (t : List (Nat × AV)) (v : AV) : Prop :=
  ∀ u ι S a w, Sim C.E C.N ⟨u, h, m⟩ ι S a w → (∀ x ∈ o.looksAt L.toArray, ∀ z, lk x t = some z → lk x u = some z) → (∀ d, o.dst = some d → d < C.N) →
    ∀ next : Act → World → Prop, (∀ ι' S' a' w', Sim C.E C.N ⟨putT u o.dst v, h', m'⟩ ι' S' a' w' → next a' w') →
      (Region.wanted o (yielded L.toArray a.tmps) = true → o.wp C.P a w next (QN C k)) ∧ (Region.wanted o (yielded L.toArray a.tmps) = false → next (a.put o.dst undef) w)
structure XOK (C : Cx) (L : List Oper) (k : List Item) (h h' : Heap) (m m' μ : Nat) (o : Oper) (t : List (Nat × AV)) (v : AV) : Prop where
  at3 : μ = 3 → StepX C L k h h' m m' o t v
  fore : μ = 0 ∨ μ = 1 → StepOK C L k h m o t v
  back : μ = 0 ∨ μ = 2 → StepOK C L k h' m' o t v

section
variable (C : Cx) (L : List Oper) (fuel : Nat) (tail : List Oper) (k : List Item) (h h' : Heap) (m m' : Nat)
mutual
def VXc : List Nat → List Oper → Oper → List (Nat × AV) → Bool → Res → Res → Prop
  | ms, os, o, t, c, .val need v _, .val need' v' _ => (c = true → need ∧ need') ∧ v' = v ∧ VX ms os (putT t o.dst (mkg c v))
  | _, _, _, _, _, _, _ => False
def VXp : List Nat → List Oper → Oper → List (Nat × AV) → Bool → Res → Prop
  | ms, os, o, t, c, .call need f args => ∃ as r, (c = true → need ∧ enters C.P f = true ∧ AV.fzs args = some as ∧ PC C.P f as (· = r)) ∧ VX ms os (putT t o.dst (mkg c (.f r)))
  | ms, os, o, t, c, .val _ _ _ => False
  | ms, os, o, t, c, .bad => False
def VXz : List Nat → List Oper → Oper → List (Nat × AV) → Bool → Prop → Prop → Option (Prop × FV × St) → Option (Prop × FV × St) → Prop
  | ms, os, o, t, c, need, need', some (d, y, _), some (d', y', _) => (c = true → (need ∧ d) ∧ need' ∧ d') ∧ y' = y ∧ VX ms os (putT t o.dst (mkg c (.f y)))
  | _, _, _, _, _, _, _, _, _ => False
def VXf : List Nat → List Oper → Oper → List (Nat × AV) → Bool → Res → Res → Prop
  | ms, os, o, t, c, .val need v σ', .val need' v' σ'' => VXz ms os o t c need need' (release σ' v) (release σ'' v')
  | _, _, _, _, _, _, _ => False
def VXm : List Nat → List Oper → Oper → List (Nat × AV) → Bool → Prop
  | ms, os, o, t, c => ∃ v, StepX C L k h h' m m' o t (mkg c v) ∧ VX ms os (putT t o.dst (mkg c v))
def VXk : List Nat → List Oper → Oper → List (Nat × AV) → Bool → Nat → Nat → Prop
  | ms, os, o, t, c, 3, _ => VXm ms os o t c
  | ms, os, o, t, c, 0, 0 => VXc ms os o t c (aop (tk C.P) ⟨pickT t (o.looksAt L.toArray), h, m⟩ o.op) (aop (tk C.P) ⟨pickT t (o.looksAt L.toArray), h', m'⟩ o.op)
  | ms, os, o, t, c, 1, 0 => VXc ms os o t c (aop (tk C.P) ⟨pickT t (o.looksAt L.toArray), h, m⟩ o.op) (aop (tk C.P) ⟨pickT t (o.looksAt L.toArray), h, m⟩ o.op)
  | ms, os, o, t, c, 2, 0 => VXc ms os o t c (aop (tk C.P) ⟨pickT t (o.looksAt L.toArray), h', m'⟩ o.op) (aop (tk C.P) ⟨pickT t (o.looksAt L.toArray), h', m'⟩ o.op)
  | ms, os, o, t, c, 0, 1 => VXf ms os o t c (aop (tk C.P) ⟨pickT t (o.looksAt L.toArray), [], m⟩ o.op) (aop (tk C.P) ⟨pickT t (o.looksAt L.toArray), [], m'⟩ o.op)
  | ms, os, o, t, c, 1, 1 => VXf ms os o t c (aop (tk C.P) ⟨pickT t (o.looksAt L.toArray), [], m⟩ o.op) (aop (tk C.P) ⟨pickT t (o.looksAt L.toArray), [], m⟩ o.op)
  | ms, os, o, t, c, 2, 1 => VXf ms os o t c (aop (tk C.P) ⟨pickT t (o.looksAt L.toArray), [], m'⟩ o.op) (aop (tk C.P) ⟨pickT t (o.looksAt L.toArray), [], m'⟩ o.op)
  | ms, os, o, t, c, _, 2 => VXp ms os o t c (aop (tk C.P) ⟨pickT t (o.looksAt L.toArray), h, m⟩ o.op)
  | _, _, _, _, _, _, _ => False
def VXg : List Nat → List Oper → Oper → List (Nat × AV) → Nat → Option Bool → Prop
  | ms, os, o, t, μ, some c => VXk ms os o t c μ (qk o.op)
  | _, _, _, _, _, none => False
def VX : List Nat → List Oper → List (Nat × AV) → Prop
  | _, [], t => AWn C fuel L tail k ⟨t, h', m'⟩
  | μ :: ms, o :: os, t => VXg ms os o t μ (guardOf L ⟨pickT t (o.looksAt L.toArray), h, m⟩ o.guard)
  | [], _ :: _, _ => False
end
end

def ChainX (C : Cx) (L : List Oper) (k : List Item) (h h' : Heap) (m m' : Nat) : List Nat → List Oper → List (Nat × AV) → List AV → List (Nat × AV) → Prop
  | _, [], t, vs, t' => vs = [] ∧ t' = t
  | μ :: ms, o :: os, t, vs, t' => ∃ v vs', vs = v :: vs' ∧ XOK C L k h h' m m' μ o t v ∧ ChainX C L k h h' m m' ms os (putT t o.dst v) vs' t'
  | [], _ :: _, _, _, _ => False

section
variable {C : Cx} {L : List Oper} {fuel : Nat} {tail : List Oper} {k : List Item} {h h' : Heap} {m m' : Nat}

theorem call_heapN {P : Program} {t : List (Nat × AV)} {g1 : Heap} {n1 : Nat} {op : Op} {need : Prop} {f : FuncId} {args : List AV} (g2 : Heap) (n2 : Nat) (hq : qk op = 2) (h : aop (tk P) ⟨t, g1, n1⟩ op = .call need f args) : aop (tk P) ⟨t, g2, n2⟩ op = .call need f args := by
  cases op with
  | call c =>
    simp only [aop, qk] at h hq ⊢
    split at hq
    · cases hq
    · rename_i hc
      simp only [hc] at h ⊢
      rw [ev_heap t _ g2 g1 n2 n1, evl_heap t g2 g1 n2 n1]
      exact h
    · cases hq
  | _ => simp [qk] at hq

theorem VX_chain : ∀ (ms : List Nat) (os : List Oper) (t : List (Nat × AV)), VX C L fuel tail k h h' m m' ms os t → ∃ vs t', ChainX C L k h h' m m' ms os t vs t' ∧ AWn C fuel L tail k ⟨t', h', m'⟩
  | ms, [], t, hv => by
    cases ms <;> simp only [VX] at hv <;> exact ⟨[], t, ⟨rfl, rfl⟩, hv⟩
  | [], o :: os, t, hv => by simp only [VX] at hv
  | μ :: ms, o :: os, t, hv => by
    simp only [VX] at hv
    cases hg : guardOf L ⟨pickT t (o.looksAt L.toArray), h, m⟩ o.guard with
    | none => rw [hg] at hv; simp only [VXg] at hv
    | some c =>
      have hg' : guardOf L ⟨pickT t (o.looksAt L.toArray), h', m'⟩ o.guard = some c := by rw [← hg]; exact guardOf_heap _ _ _ _ _ _ _
      rw [hg] at hv
      simp only [VXg] at hv
      have fin : ∀ v, XOK C L k h h' m m' μ o t v → VX C L fuel tail k h h' m m' ms os (putT t o.dst v) → ∃ vs t', ChainX C L k h h' m m' (μ :: ms) (o :: os) t vs t' ∧ AWn C fuel L tail k ⟨t', h', m'⟩ := by
        intro v hst hvq
        obtain ⟨vs, t', hc, ha⟩ := VX_chain ms os _ hvq
        exact ⟨v :: vs, t', ⟨v, vs, rfl, hst, hc⟩, ha⟩
      unfold VXk at hv
      split at hv
      · -- the one that makes another heap
        unfold VXm at hv
        obtain ⟨v, h1, h2⟩ := hv
        exact fin _ ⟨fun _ => h1, fun h => by omega, fun h => by omega⟩ h2
      · rename_i hq
        unfold VXc at hv
        split at hv
        · rename_i e1 e2
          obtain ⟨h1, rfl, h3⟩ := hv
          exact fin _ ⟨fun h => by omega, fun _ => step_val hq hg e1 fun hc => (h1 hc).1, fun _ => step_val hq hg' e2 fun hc => (h1 hc).2⟩ h3
        · exact hv.elim
      · rename_i hq
        unfold VXc at hv
        split at hv
        · rename_i e1 e2
          obtain ⟨h1, h2, h3⟩ := hv
          exact fin _ ⟨fun h => by omega, fun _ => step_val hq hg e1 fun hc => (h1 hc).1, fun h => by omega⟩ h3
        · exact hv.elim
      · rename_i hq
        unfold VXc at hv
        split at hv
        · rename_i e1 e2
          obtain ⟨h1, h2, h3⟩ := hv
          exact fin _ ⟨fun h => by omega, fun h => by omega, fun _ => step_val hq hg' e1 fun hc => (h1 hc).1⟩ h3
        · exact hv.elim
      · rename_i hq
        unfold VXf at hv
        split at hv
        · rename_i e1 e1'
          unfold VXz at hv
          split at hv
          · rename_i e2 e2'
            exact fin _ ⟨fun h => by omega, fun _ => step_frz hg e1 e2 fun hc => (hv.1 hc).1, fun _ => step_frz hg' e1' (by rw [e2', hv.2.1]) fun hc => (hv.1 hc).2⟩ hv.2.2
          · exact hv.elim
        · exact hv.elim
      · rename_i hq
        unfold VXf at hv
        split at hv
        · rename_i e1 e1'
          unfold VXz at hv
          split at hv
          · rename_i e2 e2'
            exact fin _ ⟨fun h => by omega, fun _ => step_frz hg e1 e2 fun hc => (hv.1 hc).1, fun h => by omega⟩ hv.2.2
          · exact hv.elim
        · exact hv.elim
      · rename_i hq
        unfold VXf at hv
        split at hv
        · rename_i e1 e1'
          unfold VXz at hv
          split at hv
          · rename_i e2 e2'
            exact fin _ ⟨fun h => by omega, fun h => by omega, fun _ => step_frz hg' e1 e2 fun hc => (hv.1 hc).1⟩ hv.2.2
          · exact hv.elim
        · exact hv.elim
      · rename_i hn hq
        unfold VXp at hv
        split at hv
        · rename_i e1
          obtain ⟨as, r, h1, h2⟩ := hv
          exact fin _ ⟨fun h => absurd h hn, fun _ => step_call hg e1 h1, fun _ => step_call hg' (call_heapN _ _ hq e1) h1⟩ h2
        · exact hv.elim
        · exact hv.elim
      · exact hv.elim

theorem chain_getX : ∀ {ms : List Nat} {os : List Oper} {t : List (Nat × AV)} {vs : List AV} {t' : List (Nat × AV)}, ChainX C L k h h' m m' ms os t vs t' →
    t' = TDn os (fun i => vs.getD i (.tup [])) t (fun _ => true) os.length ∧ ∀ i o, os[i]? = some o → ∃ μ, ms[i]? = some μ ∧ XOK C L k h h' m m' μ o (TDn os (fun i => vs.getD i (.tup [])) t (fun _ => true) i) (vs.getD i (.tup []))
  | ms, [], t, vs, t', hc => by
    have : vs = [] ∧ t' = t := by cases ms <;> exact hc
    obtain ⟨rfl, rfl⟩ := this; exact ⟨rfl, fun i o h => by simp at h⟩
  | [], o :: os, t, vs, t', hc => by exact (hc : False).elim
  | μ :: ms, o :: os, t, vs, t', hc => by
    obtain ⟨v, vs', rfl, hst, hc⟩ := hc
    obtain ⟨h1, h2⟩ := chain_getX hc
    have key : ∀ i, TDn (o :: os) (fun i => (v :: vs').getD i (.tup [])) t (fun _ => true) (i + 1) = TDn os (fun i => vs'.getD i (.tup [])) (putT t o.dst v) (fun _ => true) i := by
      intro i
      induction i with
      | zero => simp [TDn, putO]
      | succ i ih =>
        rw [TDn, ih]
        simp only [TDn, List.getElem?_cons_succ, List.getD_cons_succ]
    refine ⟨by rw [h1, List.length_cons, key], ?_⟩
    intro i o' ho
    cases i with
    | zero =>
      simp only [List.getElem?_cons_zero, Option.some.injEq] at ho
      subst ho
      exact ⟨μ, rfl, hst⟩
    | succ i =>
      rw [key]
      simp only [List.getElem?_cons_succ] at ho
      obtain ⟨μ', e, h3⟩ := h2 i o' ho
      exact ⟨μ', by simpa using e, h3⟩
end

def drawX (p : Nat) (D : List Nat) (L : List Oper) : Bool :=
  (List.range L.length).all fun i => (predsOf L i).all (fun j => decide (j < i)) && (!decide (i < p) || (List.range i).all fun j => pairOK L j i) && (decide (i < p) || (List.range i).all fun q => D.contains q || reach L 9 i q)
structure DrawX (p : Nat) (D : Nat → Bool) (L : List Oper) : Prop where
  down : ∀ i j, i < L.length → j ∈ predsOf L i → j < i
  pair : ∀ i j, i < L.length → i < p → j < i → pairOK L j i = true
  tail : ∀ i q, i < L.length → p ≤ i → q < i → D q = false → reach L 9 i q = true
theorem drawX_spec {p : Nat} {D : List Nat} {L : List Oper} (h : drawX p D L = true) : DrawX p D.contains L := by
  simp only [drawX, List.all_eq_true, List.mem_range, Bool.and_eq_true, Bool.or_eq_true, Bool.not_eq_true', decide_eq_true_eq, decide_eq_false_iff_not] at h
  refine ⟨fun i j hi hj => (h i hi).1.1 j hj, fun i j hi hp hj => ?_, fun i q hi hp hq hD => ?_⟩
  · rcases (h i hi).1.2 with h' | h'
    · exact absurd hp h'
    · exact h' j hj
  · rcases (h i hi).2 with h' | h'
    · omega
    · rcases h' q hq with h'' | h''
      · rw [hD] at h''; cases h''
      · exact h''

section
variable {C : Cx} {L : List Oper} {k : List Item} {h h' : Heap} {m m' p s : Nat}
def npD (m m' : Nat) (b : Bool) : Nat := match b with | true => m' | false => m
section
variable {D : Nat → Bool}

theorem any_tailX (ok : DrawX p D L) (hDp : ∀ q, p ≤ q → D q = false) : ∀ (fuel : Nat) (listed : Array Bool) (q : Nat), listed.size = L.length → p ≤ q → q ≤ L.length → (∀ i, i < L.length → (dOf listed i = true ↔ i < q)) → fuel + q = L.length →
    ∀ a w, At C L (L.drop q) k a w → wpAnyIn C.F 0 C.P .any L.toArray (QN C k) fuel listed a w := by
  intro fuel
  induction fuel with
  | zero =>
    intro listed q hsz hp hq hD hf a w hA
    have : q = L.length := by omega
    subst this
    refine ⟨?_, ?_⟩
    · apply List.eq_nil_iff_forall_not_mem.2
      intro i hi
      obtain ⟨h1, h2, _⟩ := (ready_mem hsz).1 hi
      have := (hD i h1).2 h1
      rw [this] at h2; cases h2
    · rw [List.drop_length] at hA
      exact at_nil.1 hA
  | succ fuel ih =>
    intro listed q hsz hp hq hD hf a w hA
    have hqlt : q < L.length := by omega
    have hqD : dOf listed q = false := by
      cases hd : dOf listed q with
      | false => rfl
      | true => have := (hD q hqlt).1 hd; omega
    have hready : q ∈ Region.ready .any L.toArray listed := (ready_mem hsz).2 ⟨hqlt, hqD, fun j hj => by
      have := ok.down q j hqlt hj
      exact (hD j (by omega)).2 this⟩
    refine ⟨fun he => (by rw [he] at hready; cases hready), ?_⟩
    intro i hi
    obtain ⟨h1, h2, h3⟩ := (ready_mem hsz).1 hi
    have hqi : i = q := by
      have hge : q ≤ i := by
        rcases Nat.lt_or_ge i q with hlt | hge
        · have := (hD i h1).2 hlt; rw [this] at h2; cases h2
        · exact hge
      rcases Nat.eq_or_lt_of_le hge with e | hlt
      · exact e.symm
      · exfalso
        have hr := ok.tail i q h1 (by omega) hlt (hDp q hp)
        have := reach_sound (D := dOf listed) (fun i' hi' j hj => by
          have hi'' : i' < L.length := by
            rcases Nat.lt_or_ge i' L.length with h | h
            · exact h
            · have : dOf listed i' = false := by simp [dOf, Array.getD, show ¬ i' < listed.size by omega]
              rw [this] at hi'; cases hi'
          have h5 := (hD i' hi'').1 hi'
          have h6 := ok.down i' j hi'' hj
          exact (hD j (by omega)).2 (by omega)) 9 i q h3 hr
        rw [hqD] at this; cases this
    subst hqi
    have hlen : (L.drop i).length = L.length - i := by simp
    have hdrop : L.drop i = L[i] :: L.drop (i + 1) := by rw [List.drop_eq_getElem_cons hqlt]
    have hstep : At C L (L.drop i) k a w = wpOpIn C.F 0 C.P L.toArray (QN C k) i (fun a w => At C L (L.drop (i + 1)) k a w) a w := by
      unfold At
      have e1 : L.length - (L.drop i).length = i := by simp; omega
      have e2 : (L.drop i).length = (L.drop (i + 1)).length + 1 := by simp; omega
      have e3 : L.length - (L.drop (i + 1)).length = i + 1 := by simp; omega
      rw [e1, e2, List.range'_succ, wpOpsIn_cons, e3]
    rw [hstep] at hA
    refine wpOpIn_mono ?_ hA
    intro a' w' hA'
    refine ih _ (i + 1) (by simpa using hsz) (by omega) (by omega) ?_ (by omega) a' w' hA'
    intro i' hi'
    rw [dOf_set (by omega)]
    by_cases e : i' = i
    · subst e; simp
    · rw [if_neg e, hD i' hi']; omega

end
theorem any_quietX {D : Nat → Bool} (hDp : ∀ q, p ≤ q → D q = false) (hs0 : s < p) (ok : DrawX p D L) (hp : p ≤ L.length) (hokd : okOps C.N L = true) {V : Nat → AV} {t0 : List (Nat × AV)} (hstep : ∀ i o, i < p → L[i]? = some o → XOK C L k h h' m m' (modeOf L s i) o (TDn L V t0 (fun _ => true) i) (V i))
    (hend : ∀ ι S a w, Sim C.E C.N ⟨TDn L V t0 (fun _ => true) p, h', m'⟩ ι S a w → At C L (L.drop p) k a w) : ∀ (fuel : Nat) (listed : Array Bool), listed.size = L.length → (∀ i, dOf listed i = true → ∀ j ∈ predsOf L i, dOf listed j = true) →
    (∀ i, dOf listed i = true → i < p) → (∀ i, D i = true → dOf listed i = true) → fuel + cnt (dOf listed) L.length = L.length →
    ∀ ι S a w, Sim C.E C.N ⟨TDn L V t0 (dOf listed) p, hpD h h' (dOf listed s), npD m m' (dOf listed s)⟩ ι S a w → wpAnyIn C.F 0 C.P .any L.toArray (QN C k) fuel listed a w := by
  intro fuel
  induction fuel with
  | zero =>
    intro listed hsz hdown hlt hDl hf ι S a w hs
    have hfull := cnt_full (n := L.length) (D := dOf listed) (by omega)
    have hpe : p = L.length := by
      rcases Nat.eq_or_lt_of_le hp with e | hl
      · exact e
      · have := hlt p (hfull p hl); omega
    have hsd : dOf listed s = true := hfull s (by omega)
    rw [hsd] at hs
    refine any_tailX ok hDp 0 listed p hsz (Nat.le_refl _) hp (fun i hi => ⟨fun h => hlt i h, fun h => hfull i hi⟩) (by omega) a w (hend ι S a w ?_)
    refine ⟨hs.mem, hs.tsz, fun x v hx => hs.tm x v ?_, hs.def0⟩
    rw [← hx]
    exact lk_TDn_congr x fun q hq _ => hfull q (by omega)
  | succ fuel ih =>
    intro listed hsz hdown hlt hDl hf ι S a w hs
    by_cases hall : ∀ i, i < p → dOf listed i = true
    · -- all quiet ones are done
      have hsd : dOf listed s = true := hall s hs0
      rw [hsd] at hs
      have hcnt : cnt (dOf listed) L.length = p := by
        have key : ∀ n, cnt (dOf listed) n = if n ≤ p then n else p := by
          intro n
          induction n with
          | zero => simp [cnt]
          | succ n ihn =>
            simp only [cnt, ihn]
            by_cases hn : n < p
            · rw [hall n hn]
              simp only [if_true]
              rw [if_pos (by omega), if_pos (by omega)]
            · have : ¬ dOf listed n = true := fun h => hn (hlt n h)
              rw [if_neg this]
              split <;> split <;> omega
        rw [key]; split <;> omega
      refine any_tailX ok hDp (fuel + 1) listed p hsz (Nat.le_refl _) hp (fun i hi => ⟨fun h => hlt i h, fun h => hall i h⟩) (by omega) a w (hend ι S a w ?_)
      refine ⟨hs.mem, hs.tsz, fun x v hx => hs.tm x v ?_, hs.def0⟩
      rw [← hx]
      exact lk_TDn_congr x fun q hq _ => hall q hq
    · have hnot : ∃ q, q < p ∧ dOf listed q = false := by
        apply Classical.byContradiction
        intro hne
        apply hall
        intro i hi
        cases hd : dOf listed i with
        | true => rfl
        | false => exact absurd ⟨i, hi, hd⟩ hne
      have hleast : ∃ q, q < p ∧ dOf listed q = false ∧ ∀ j, j < q → dOf listed j = true := by
        obtain ⟨q, hq⟩ := hnot
        induction q using Nat.strongRecOn with
        | _ q ihq =>
          by_cases he : ∀ j, j < q → dOf listed j = true
          · exact ⟨q, hq.1, hq.2, he⟩
          · have : ∃ j, j < q ∧ dOf listed j = false := by
              apply Classical.byContradiction
              intro hne
              apply he
              intro j hj
              cases hd : dOf listed j with
              | true => rfl
              | false => exact absurd ⟨j, hj, hd⟩ hne
            obtain ⟨j, hj, hd⟩ := this
            exact ihq j hj ⟨by omega, hd⟩
      obtain ⟨q, hqp, hqD, hqb⟩ := hleast
      have hready : q ∈ Region.ready .any L.toArray listed := (ready_mem hsz).2 ⟨by omega, hqD, fun j hj => hqb j (ok.down q j (by omega) hj)⟩
      refine ⟨fun he => (by rw [he] at hready; cases hready), ?_⟩
      intro i hi
      obtain ⟨h1, h2, h3⟩ := (ready_mem hsz).1 hi
      have hip : i < p := by
        rcases Nat.lt_or_ge i p with hl | hge
        · exact hl
        · exfalso
          have := reach_sound (D := dOf listed) hdown 9 i q h3 (ok.tail i q h1 hge (by omega) (by cases hd : D q with | false => rfl | true => rw [hDl q hd] at hqD; cases hqD))
          rw [hqD] at this; cases this
      have hLi : L[i]? = some L[i] := List.getElem?_eq_getElem h1
      have hst := hstep i L[i] hip hLi
      have hd : ∀ d, L[i].dst = some d → d < C.N := okOps_mem hokd (List.getElem_mem h1)
      have pairs : ∀ j, j < p → ∀ x, ((x ∈ (L[i]).looksAt L.toArray ∨ (L[i]).dst = some x) ∧ dstAt L j = some x) → (j < i → j ∈ predsOf L i) ∧ (i < j → i ∈ predsOf L j) := by
        intro j hj x ⟨hx, hdx⟩
        have hjl : j < L.length := by omega
        have hLj : L[j]? = some L[j] := List.getElem?_eq_getElem hjl
        have hdj : L[j].dst = some x := by simpa [dstAt, hLj] using hdx
        constructor
        · intro hji
          have := ok.pair i j h1 hip hji
          simp only [pairOK, hLj, hLi, clash, hdj, Bool.or_eq_true, Bool.not_eq_true', List.contains_iff_mem, Bool.or_eq_false_iff] at this
          rcases this with ⟨⟨h4, h5⟩, _⟩ | h
          · rcases hx with hx | hx
            · have := List.contains_iff_mem.2 hx; rw [h4] at this; cases this
            · rw [hx] at h5; simp at h5
          · exact h
        · intro hij
          have := ok.pair j i hjl hj hij
          simp only [pairOK, hLj, hLi, clash, hdj, Bool.or_eq_true, Bool.not_eq_true', List.contains_iff_mem, Bool.or_eq_false_iff] at this
          rcases this with ⟨h4, h5⟩ | h
          · rcases hx with hx | hx
            · have := List.contains_iff_mem.2 hx; rw [h5] at this; cases this
            · rw [hx] at h4; simp at h4
          · exact h
      have hla : ∀ x ∈ (L[i]).looksAt L.toArray, lk x (TDn L V t0 (dOf listed) p) = lk x (TDn L V t0 (fun _ => true) i) := by
        intro x hx
        rw [lk_TDn_skip (dOf listed) x (i := i) (j := p) (by omega)]
        · refine lk_TDn_congr x fun j hj hdx => ?_
          exact h3 j ((pairs j (by omega) x ⟨.inl hx, hdx⟩).1 hj)
        · intro j hj1 hj2 hDj hdx
          rcases Nat.eq_or_lt_of_le hj1 with e | hlt'
          · subst e; rw [h2] at hDj; cases hDj
          · have := hdown j hDj i ((pairs j hj2 x ⟨.inl hx, hdx⟩).2 hlt')
            rw [h2] at this; cases this
      have hlisted : i < listed.size := by omega
      have hnext : ∀ ι' S' a' w', Sim C.E C.N ⟨putT (TDn L V t0 (dOf listed) p) L[i].dst (V i), hpD h h' (dOf (listed.setIfInBounds i true) s), npD m m' (dOf (listed.setIfInBounds i true) s)⟩ ι' S' a' w' → wpAnyIn C.F 0 C.P .any L.toArray (QN C k) fuel (listed.setIfInBounds i true) a' w' := by
        intro ι' S' a' w' hs'
        refine ih _ (by simpa using hsz) ?_ ?_ ?_ ?_ ι' S' a' w' ⟨hs'.mem, hs'.tsz, fun x v hx => hs'.tm x v ?_, hs'.def0⟩
        · intro i' hi' j hj
          rw [dOf_set hlisted] at hi' ⊢
          by_cases e : i' = i
          · subst e
            split
            · rfl
            · exact h3 j hj
          · rw [if_neg e] at hi'
            split
            · rfl
            · exact hdown i' hi' j hj
        · intro i' hi'
          rw [dOf_set hlisted] at hi'
          split at hi'
          · rename_i e; omega
          · exact hlt i' hi'
        · intro i' hi'
          rw [dOf_set hlisted]
          split
          · rfl
          · exact hDl i' hi'
        · rw [cnt_set (D := dOf listed) (q := i) h1 h2 (by rw [dOf_set hlisted, if_pos rfl]) (fun j hj => by rw [dOf_set hlisted, if_neg hj])]
          omega
        · rw [← hx]
          have hput : lk x (putT (TDn L V t0 (dOf listed) p) L[i].dst (V i)) = if L[i].dst = some x then some (V i) else lk x (TDn L V t0 (dOf listed) p) := by
            cases hdd : L[i].dst with
            | none => simp [putT]
            | some d =>
              simp only [putT, lk_cons, Option.some.injEq]
              by_cases e : x = d
              · subst e; simp
              · rw [if_neg e, if_neg (fun h => e h.symm)]
          rw [hput]
          by_cases hdx : L[i].dst = some x
          · rw [if_pos hdx]
            rw [lk_TDn_skip (dOf (listed.setIfInBounds i true)) x (i := i + 1) (j := p) (by omega)]
            · rw [lk_TDn_succ, if_pos ⟨by rw [dOf_set hlisted, if_pos rfl], by simp [dstAt, hLi, hdx]⟩]
            · intro j hj1 hj2 hDj hdj
              rw [dOf_set hlisted, if_neg (by omega)] at hDj
              have := hdown j hDj i ((pairs j hj2 x ⟨.inr hdx, hdj⟩).2 (by omega))
              rw [h2] at this; cases this
          · rw [if_neg hdx]
            refine lk_TDn_congr x fun j hj hdj => ?_
            rw [dOf_set hlisted, if_neg]
            intro e; subst e
            simp only [dstAt, hLi, Option.bind_some] at hdj
            exact hdx hdj
      have hto : StepX C L k (hpD h h' (dOf listed s)) (hpD h h' (dOf (listed.setIfInBounds i true) s)) (npD m m' (dOf listed s)) (npD m m' (dOf (listed.setIfInBounds i true) s)) L[i] (TDn L V t0 (fun _ => true) i) (V i) := by
        rw [dOf_set hlisted]
        by_cases e : s = i
        · subst e
          rw [if_pos rfl, h2]
          exact hst.at3 (by simp [modeOf])
        · rw [if_neg e]
          have e' : (i == s) = false := by simp; exact fun h => e h.symm
          cases hds : dOf listed s with
          | true =>
            have hr : reach L 9 s i = false := by
              cases hr : reach L 9 s i with
              | false => rfl
              | true => have := reach_sound (D := dOf listed) hdown 9 s i (hdown s hds) hr
                        rw [h2] at this; cases this
            refine hst.back ?_
            cases hb : reach L 9 i s <;> simp [modeOf, e', hr, hb]
          | false =>
            have hr : reach L 9 i s = false := by
              cases hr : reach L 9 i s with
              | false => rfl
              | true => have := reach_sound (D := dOf listed) hdown 9 i s h3 hr
                        rw [hds] at this; cases this
            refine hst.fore ?_
            cases hb : reach L 9 s i <;> simp [modeOf, e', hr, hb]
      have hres := hto _ ι S a w hs (fun x hx z hz => by rw [hla x hx]; exact hz) hd (wpAnyIn C.F 0 C.P .any L.toArray (QN C k) fuel (listed.setIfInBounds i true)) hnext
      unfold wpOpIn
      simp only [List.getElem?_toArray, hLi]
      cases hw : Region.wanted L[i] (yielded L.toArray a.tmps) with
      | true => simp only [if_true]; exact wp_in (okOps_nd hokd (List.getElem_mem h1)) (hres.1 hw)
      | false => simp only [if_false, Bool.false_eq_true]; exact ⟨fun f _ => C.F_fn f, hres.2 hw⟩


theorem dOf_none (n : Nat) (i : Nat) : dOf (Array.replicate n false) i = false := by
  simp only [dOf, Array.getD_eq_getD_getElem?]
  by_cases hi : i < n <;> simp [hi]
theorem cnt_none (n N : Nat) : cnt (dOf (Array.replicate n false)) N = 0 := by
  induction N with
  | zero => rfl
  | succ N ih => simp [cnt, ih, dOf_none]
/-- operations that only hand a slot on may be taken first -/
theorem dry_take {p : Nat} {D : Nat → Bool} {i : Nat} {o : Oper} {x : Operand} {V : Nat → AV} {t0 : List (Nat × AV)} {fuel : Nat} {listed : Array Bool} (ok : DrawX p D L) (hp : p ≤ L.length) (hip : i < p) (hro : C.ro = none) (hLi : L[i]? = some o) (ho : o.op = .move x) (hgd : o.guard = none)
    (hnos : Region.noSelect L.toArray = true) (hfree : Region.free .any L.toArray listed i = true) (hready : (Region.ready .any L.toArray listed).contains i = true)
    (hd : ∀ d, o.dst = some d → d < C.N) (hst : StepOK C L k h m o (TDn L V t0 (fun _ => true) i) (V i)) (hsz : listed.size = L.length) (hdown : ∀ i, dOf listed i = true → ∀ j ∈ predsOf L i, dOf listed j = true)
    (hnx : ∀ ι S a w, Sim C.E C.N ⟨TDn L V t0 (dOf (listed.setIfInBounds i true)) p, h, m⟩ ι S a w → wpAnyIn C.F 0 C.P .any L.toArray (QN C k) fuel (listed.setIfInBounds i true) a w) :
    ∀ ι S a w, Sim C.E C.N ⟨TDn L V t0 (dOf listed) p, h, m⟩ ι S a w → wpAnyIn C.F 0 C.P .any L.toArray (QN C k) (fuel + 1) listed a w := by
  intro ι S a w hs
  have h1 : i < L.length := by omega
  obtain ⟨_, h2, h3⟩ := (ready_mem hsz).1 (by simpa using hready)
  have hLi' : L[i] = o := by rw [List.getElem?_eq_getElem h1] at hLi; exact Option.some.inj hLi
  subst hLi'
  have pairs : ∀ j, j < p → ∀ x, ((x ∈ (L[i]).looksAt L.toArray ∨ (L[i]).dst = some x) ∧ dstAt L j = some x) → (j < i → j ∈ predsOf L i) ∧ (i < j → i ∈ predsOf L j) := by
    intro j hj x ⟨hx, hdx⟩
    have hjl : j < L.length := by omega
    have hLj : L[j]? = some L[j] := List.getElem?_eq_getElem hjl
    have hdj : L[j].dst = some x := by simpa [dstAt, hLj] using hdx
    constructor
    · intro hji
      have := ok.pair i j h1 hip hji
      simp only [pairOK, hLj, hLi, clash, hdj, Bool.or_eq_true, Bool.not_eq_true', List.contains_iff_mem, Bool.or_eq_false_iff] at this
      rcases this with ⟨⟨h4, h5⟩, _⟩ | h
      · rcases hx with hx | hx
        · have := List.contains_iff_mem.2 hx; rw [h4] at this; cases this
        · rw [hx] at h5; simp at h5
      · exact h
    · intro hij
      have := ok.pair j i hjl hj hij
      simp only [pairOK, hLj, hLi, clash, hdj, Bool.or_eq_true, Bool.not_eq_true', List.contains_iff_mem, Bool.or_eq_false_iff] at this
      rcases this with ⟨h4, h5⟩ | h
      · rcases hx with hx | hx
        · have := List.contains_iff_mem.2 hx; rw [h5] at this; cases this
        · rw [hx] at h4; simp at h4
      · exact h
  have hla : ∀ x ∈ (L[i]).looksAt L.toArray, lk x (TDn L V t0 (dOf listed) p) = lk x (TDn L V t0 (fun _ => true) i) := by
    intro x hx
    rw [lk_TDn_skip (dOf listed) x (i := i) (j := p) (by omega)]
    · refine lk_TDn_congr x fun j hj hdx => ?_
      exact h3 j ((pairs j (by omega) x ⟨.inl hx, hdx⟩).1 hj)
    · intro j hj1 hj2 hDj hdx
      rcases Nat.eq_or_lt_of_le hj1 with e | hlt'
      · subst e; rw [h2] at hDj; cases hDj
      · have := hdown j hDj i ((pairs j hj2 x ⟨.inl hx, hdx⟩).2 hlt')
        rw [h2] at this; cases this
  have hlisted : i < listed.size := by omega
  have hnext : ∀ ι' S' a' w', Sim C.E C.N ⟨putT (TDn L V t0 (dOf listed) p) L[i].dst (V i), h, m⟩ ι' S' a' w' → wpAnyIn C.F 0 C.P .any L.toArray (QN C k) fuel (listed.setIfInBounds i true) a' w' := by
    intro ι' S' a' w' hs'
    refine hnx ι' S' a' w' ⟨hs'.mem, hs'.tsz, fun x v hx => hs'.tm x v ?_, hs'.def0⟩
    rw [← hx]
    have hput : lk x (putT (TDn L V t0 (dOf listed) p) L[i].dst (V i)) = if L[i].dst = some x then some (V i) else lk x (TDn L V t0 (dOf listed) p) := by
      cases hdd : L[i].dst with
      | none => simp [putT]
      | some d =>
        simp only [putT, lk_cons, Option.some.injEq]
        by_cases e : x = d
        · subst e; simp
        · rw [if_neg e, if_neg (fun h => e h.symm)]
    rw [hput]
    by_cases hdx : L[i].dst = some x
    · rw [if_pos hdx]
      rw [lk_TDn_skip (dOf (listed.setIfInBounds i true)) x (i := i + 1) (j := p) (by omega)]
      · rw [lk_TDn_succ, if_pos ⟨by rw [dOf_set hlisted, if_pos rfl], by simp [dstAt, hLi, hdx]⟩]
      · intro j hj1 hj2 hDj hdj
        rw [dOf_set hlisted, if_neg (by omega)] at hDj
        have := hdown j hDj i ((pairs j hj2 x ⟨.inr hdx, hdj⟩).2 (by omega))
        rw [h2] at this; cases this
    · rw [if_neg hdx]
      refine lk_TDn_congr x fun j hj hdj => ?_
      rw [dOf_set hlisted, if_neg]
      intro e; subst e
      simp only [dstAt, hLi, Option.bind_some] at hdj
      exact hdx hdj
  have hwant : Region.wanted L[i] (yielded L.toArray a.tmps) = true := by simp [Region.wanted, hgd]
  have hrun : ∀ w, (execOp a.eval L[i]).run C.P w = .ok (.value (a.eval x)) w := fun w => by simp [execOp, ho]
  have hres := (hst _ ι S a w hs (fun x hx z hz => by rw [hla x hx]; exact hz) hd (wpAnyIn C.F 0 C.P .any L.toArray (QN C k) fuel (listed.setIfInBounds i true)) hnext).1 hwant
  unfold Oper.wp at hres
  rw [hrun w, Oper.upon_value] at hres
  refine wpAnyIn_take (by rw [Cx.F_round, hro]) (by simp) hnos hfree hready (fun c a w h => h.elim) ⟨.inl ⟨hwant, hrun⟩, fun w => ?_⟩ hres
  simp [Oper.about, ho]
theorem evl_pick {t u : List (Nat × AV)} {ys : List Nat} {g : Heap} {n : Nat} (hl : ∀ x ∈ ys, ∀ z, lk x t = some z → lk x u = some z) : ∀ {xs : List Operand} {r : Bool × List AV}, evl ⟨pickT t ys, g, n⟩ xs = some r → evl ⟨u, g, n⟩ xs = some r
  | [], r, h => h
  | x :: xs, r, h => by
    simp only [evl] at h ⊢
    split at h
    · rename_i e1 e2
      rw [ev_pick hl e1, evl_pick hl e2]
      exact h
    · cases h
theorem rdSl_st {t u : List (Nat × AV)} {g : Heap} {n : Nat} (sz : Nat) (x : AV) : rdSl ⟨t, g, n⟩ sz x = rdSl ⟨u, g, n⟩ sz x := by
  unfold rdSl
  rfl
theorem aAppend_st {tk : TypeId → Option TK} {t u : List (Nat × AV)} {g : Heap} {n : Nat} {T U : TypeId} {A B : Option (Bool × AV)} {K : Option TK} {need : Prop} {v : AV} {σ' : St} (h : aAppend tk ⟨t, g, n⟩ T U A B K = .val need v σ') : aAppend tk ⟨u, g, n⟩ T U A B K = .val need v ⟨u, σ'.h, σ'.n⟩ := by
  have key : ∀ (c : Prop) (e : TypeId) (s : AV) (kk : TK) (R : Option (Prop × List FV)), apE ⟨t, g, n⟩ c e kk s R = .val need v σ' → apE ⟨u, g, n⟩ c e kk s R = .val need v ⟨u, σ'.h, σ'.n⟩ := by
    intro c e s kk R h
    unfold apE at h ⊢
    split at h
    · unfold apRow at h ⊢
      cases h; rfl
    · rename_i e2
      cases hl : lk _ g with
      | none => rw [hl] at h; cases h
      | some ob =>
        rw [hl] at h
        simp only [hl]
        cases ob <;> first | (cases h; done) | skip
        unfold apRow at h ⊢
        cases h; rfl
    · cases h
  match A, B, K with
  | some (c, s), some (d, x), some ⟨_, _, _, _, .slice e⟩ =>
    simp only [aAppend, apT] at h ⊢
    cases hk : tk e with
    | none => rw [hk] at h; cases h
    | some kk =>
      rw [hk] at h
      simp only [] at h ⊢
      rw [rdSl_st (u := u)] at h
      exact key _ _ _ _ _ h
  | none, _, _ => simp [aAppend] at h
  | some _, none, _ => simp [aAppend] at h
  | some _, some _, none => simp [aAppend] at h
  | some _, some _, some ⟨_, _, _, _, .int _⟩ => simp [aAppend] at h
/-- an 'append' -/
theorem step_appX {h' : Heap} {m' : Nat} {o : Oper} {t : List (Nat × AV)} {need : Prop} {v : AV} {σ' : St} {s x : Operand} {T U : TypeId} (hgd : o.guard = none) (ho : o.op = .call { callee := .builtin .append, args := #[s, x], argTypes := #[T, U] })
    (hr : aop (tk C.P) ⟨pickT t (o.looksAt L.toArray), h, m⟩ o.op = .val need v σ') (hn : need) (hh : σ'.h = h') (hm : σ'.n = m') : StepX C L k h h' m m' o t (mkg true v) := by
  intro u ι S a w hs hl hd next hnext
  have hw : Region.wanted o (yielded L.toArray a.tmps) = true := by simp [Region.wanted, hgd]
  rw [hw]
  refine ⟨fun _ => ?_, fun h => by cases h⟩
  have hop : aop (tk C.P) ⟨u, h, m⟩ o.op = .val need v ⟨u, h', m'⟩ := by
    have e : ∀ y : List (Nat × AV), aop (tk C.P) ⟨y, h, m⟩ o.op = aAppend (tk C.P) ⟨y, h, m⟩ T U (ev ⟨y, h, m⟩ s) (ev ⟨y, h, m⟩ x) (tk C.P T) := fun y => by rw [ho]; rfl
    rw [e] at hr ⊢
    cases h1 : ev ⟨pickT t (o.looksAt L.toArray), h, m⟩ s with
    | none => rw [h1] at hr; simp [aAppend] at hr
    | some r1 =>
      cases h2 : ev ⟨pickT t (o.looksAt L.toArray), h, m⟩ x with
      | none => rw [h1, h2] at hr; simp [aAppend] at hr
      | some r2 =>
        rw [h1, h2] at hr
        rw [ev_pick hl h1, ev_pick hl h2, ← hh, ← hm]
        exact aAppend_st hr
  refine wp_of_good (aop_sound hs hop hn) hd ?_
  intro ι' S' a' w' hs'
  rw [put_putT] at hs'
  exact hnext ι' S' a' w' hs'
/-- a call that is handed objects -/
theorem step_callX {h' : Heap} {m' : Nat} {o : Oper} {t : List (Nat × AV)} {need : Prop} {f : FuncId} {args : List AV} (τ : List (Nat × Nat)) {n0 : Nat} {h0 : Heap} {as : List AV} {av1 : AV} {h1 : Heap} {n1 : Nat} (hgd : o.guard = none)
    (hr : aop (tk C.P) ⟨pickT t (o.looksAt L.toArray), h, m⟩ o.op = .call need f args) (hn : need) (hf : enters C.P f = true) (hgc : GD C.P f n0 h0 as av1 h1 n1) (ha : ownAll τ n0 h0 as args h m)
    (hh : renH (shift τ n0 m) h1 ++ delAll τ h0 h = h') (hm : m + (n1 - n0) = m') : StepX C L k h h' m m' o t (mkg true (av1.ren (shift τ n0 m))) := by
  intro u ι S a w hs hl hd next hnext
  have hw : Region.wanted o (yielded L.toArray a.tmps) = true := by simp [Region.wanted, hgd]
  rw [hw]
  refine ⟨fun _ => ?_, fun h => by cases h⟩
  have hp := sim_pick hs hl
  obtain ⟨cl, x, ho, hcal, hcall⟩ := call_val hr
  obtain ⟨vals, hrun, hv⟩ := s_call hp ho hcal hcall hn hf
  unfold Oper.wp
  rw [hrun, Oper.upon_enter]
  rw [ha.1] at hv
  refine (hgc S (fun i => ι (rn τ i)) w vals (mem_entry hs ha.2.2.1 ha.2.2.2.1) (rens_sound as hv ha.2.1)).mono ?_
  rintro e w' ⟨v, rfl, av, h2, m2, ι', S', ⟨rfl, e⟩, hmm, hvr⟩
  injection e with _ e1 e2
  subst e1 e2
  obtain ⟨ι'', hτ, hs'⟩ := sim_after hs ha.2.2.1 ha.2.2.2.2 hmm
  have hput := hs'.put hd (renF_sound hτ av hvr)
  rw [put_putT] at hput
  rw [hh, hm] at hput
  exact hnext _ _ _ _ hput
theorem VXm.app {h h' : Heap} {m m' fuel : Nat} {tail : List Oper} {ms : List Nat} {os : List Oper} {o : Oper} {t : List (Nat × AV)} {need : Prop} {v : AV} {σ' : St} {s x : Operand} {T U : TypeId} (hgd : o.guard = none) (ho : o.op = .call { callee := .builtin .append, args := #[s, x], argTypes := #[T, U] })
    (hr : aop (tk C.P) ⟨pickT t (o.looksAt L.toArray), h, m⟩ o.op = .val need v σ') (hn : need) (hh : σ'.h = h') (hm : σ'.n = m') (hv : VX C L fuel tail k h h' m m' ms os (putT t o.dst (mkg true v))) : VXm C L fuel tail k h h' m m' ms os o t true := by
  unfold VXm
  exact ⟨v, step_appX hgd ho hr hn hh hm, hv⟩
theorem VXm.det {h h' : Heap} {m m' fuel : Nat} {tail : List Oper} {ms : List Nat} {os : List Oper} {o : Oper} {t : List (Nat × AV)} {need : Prop} {f : FuncId} {args : List AV} (τ : List (Nat × Nat)) {n0 : Nat} {h0 : Heap} {as : List AV} {av1 : AV} {h1 : Heap} {n1 : Nat} (hgd : o.guard = none)
    (hr : aop (tk C.P) ⟨pickT t (o.looksAt L.toArray), h, m⟩ o.op = .call need f args) (hn : need) (hf : enters C.P f = true) (hgc : GD C.P f n0 h0 as av1 h1 n1) (ha : ownAll τ n0 h0 as args h m)
    (hh : renH (shift τ n0 m) h1 ++ delAll τ h0 h = h') (hm : m + (n1 - n0) = m') (hv : VX C L fuel tail k h h' m m' ms os (putT t o.dst (mkg true (av1.ren (shift τ n0 m))))) : VXm C L fuel tail k h h' m m' ms os o t true := by
  unfold VXm
  exact ⟨_, step_callX τ hgd hr hn hf hgc ha hh hm, hv⟩
theorem VXp.mk {h h' : Heap} {m m' fuel : Nat} {tail : List Oper} {ms : List Nat} {os : List Oper} {o : Oper} {t : List (Nat × AV)} {c : Bool} {need : Prop} {f : FuncId} {args : List AV} (as : List FV) (r : FV)
    (hc : c = true → need ∧ enters C.P f = true ∧ AV.fzs args = some as ∧ PC C.P f as (· = r)) (hv : VX C L fuel tail k h h' m m' ms os (putT t o.dst (mkg c (.f r)))) : VXp C L fuel tail k h h' m m' ms os o t c (.call need f args) := by
  unfold VXp
  exact ⟨as, r, hc, hv⟩
/-- a region with one operation that makes another heap; it may come ahead of others or behind them -/
theorem ADr.introX {id : Nat} {σ : St} (p s fuel : Nat) (h' : Heap) (m' : Nat) (ms : List Nat) (hok : drawX p [] L = true) (hms : modesOf L s p = ms) (hp : p ≤ L.length) (hs0 : s < p) (hv : VX C L fuel (L.drop p) k σ.h h' σ.n m' ms (L.take p) σ.t) : ADr C id L k σ := by
  intro okC hsuf hoks hki ι S a w hs
  rw [at_nil]
  have ok : DrawX p (fun _ => false) L := by
    have := drawX_spec hok
    exact ⟨this.down, this.pair, fun i q h1 h2 h3 _ => this.tail i q h1 h2 h3 rfl⟩
  simp only [okItems, List.all_cons, Bool.and_eq_true, okItem, okCode] at hki
  obtain ⟨vs, t', hc, ha⟩ := VX_chain _ _ _ hv
  obtain ⟨h1, h2⟩ := chain_getX hc
  have hlen : (L.take p).length = p := by simp; omega
  rw [hlen, TDn_take _ _ _ _ p (Nat.le_refl _)] at h1
  refine goes_of_wpIn (wpIn_region_any okC.mixed ?_)
  have hq := any_quietX (C := C) (k := k) (h := σ.h) (h' := h') (m := σ.n) (m' := m') (s := s) (D := fun _ => false) (fun _ _ => rfl) hs0 ok hp hki.1 (V := fun i => vs.getD i (.tup [])) (t0 := σ.t)
    (fun i o hi ho => by
      obtain ⟨μ, hμ, hm⟩ := h2 i o (by rw [List.getElem?_take, if_pos hi]; exact ho)
      rw [TDn_take _ _ _ _ i (by omega)] at hm
      have : μ = modeOf L s i := by
        rw [← hms] at hμ
        simp only [modesOf, List.getElem?_map, List.getElem?_range hi, Option.map_some, Option.some.injEq] at hμ
        exact hμ.symm
      rw [← this]
      exact hm)
    (fun ι S a w hs => by
      rw [h1] at ha
      exact AWn_sound _ _ _ _ _ ha okC (List.drop_suffix _ _) hki.1 hki.2 ι S a w hs)
    L.length (Array.replicate L.length false) (by simp) (fun i hi => by rw [dOf_none] at hi; cases hi) (fun i hi => by rw [dOf_none] at hi; cases hi) (fun i hi => by cases hi)
    (by rw [cnt_none]; omega) ι S a { w with drawn := w.drawn + 1 } (by
      have hs' := hs.quiet (Quiet.drew w)
      rw [dOf_none _ s]
      refine ⟨hs'.mem, hs'.tsz, fun x v hx => hs'.tm x v ?_, hs'.def0⟩
      rw [← hx]
      exact (lk_TDn_skip _ x (i := 0) (Nat.zero_le _) (fun q _ _ hq => by rw [dOf_none] at hq; cases hq)).symm)
  simpa using hq
/-- two operations that only hand slots on, the first behind the second or the second behind the first, no matter -/
theorem ADr.introX2 {id : Nat} {σ : St} (p s fuel : Nat) (h' : Heap) (m' : Nat) (ms : List Nat) (d1 d2 : Nat) {o1 o2 : Oper} {x1 x2 : Operand} (hro : C.ro = none) (hok : drawX p [d1, d2] L = true) (hms : modesOf L s p = ms) (hp : p ≤ L.length) (hs0 : s < p)
    (hne : d1 ≠ d2) (hd1 : d1 < p ∧ d1 ≠ s ∧ modeOf L s d1 = 0) (hd2 : d2 < p ∧ d2 ≠ s ∧ modeOf L s d2 = 0) (ho1 : L[d1]? = some o1) (ho2 : L[d2]? = some o2) (hm1 : o1.op = .move x1) (hm2 : o2.op = .move x2) (hg1 : o1.guard = none) (hg2 : o2.guard = none) (hp1 : predsOf L d1 = []) (hp2 : predsOf L d2 = [])
    (hnos : Region.noSelect L.toArray = true)
    (hf1 : Region.free .any L.toArray (Array.replicate L.length false) d1 = true) (hr1 : (Region.ready .any L.toArray (Array.replicate L.length false)).contains d1 = true)
    (hf2 : Region.free .any L.toArray ((Array.replicate L.length false).setIfInBounds d1 true) d2 = true) (hr2 : (Region.ready .any L.toArray ((Array.replicate L.length false).setIfInBounds d1 true)).contains d2 = true)
    (hv : VX C L fuel (L.drop p) k σ.h h' σ.n m' ms (L.take p) σ.t) : ADr C id L k σ := by
  intro okC hsuf hoks hki ι S a w hs
  rw [at_nil]
  have ok := drawX_spec hok
  simp only [okItems, List.all_cons, Bool.and_eq_true, okItem, okCode] at hki
  obtain ⟨vs, t', hc, ha⟩ := VX_chain _ _ _ hv
  obtain ⟨h1, h2⟩ := chain_getX hc
  have hlen : (L.take p).length = p := by simp; omega
  rw [hlen, TDn_take _ _ _ _ p (Nat.le_refl _)] at h1
  refine goes_of_wpIn (wpIn_region_any okC.mixed ?_)
  have hDp : ∀ q, p ≤ q → [d1, d2].contains q = false := fun q hq => by
    simp only [List.contains_cons, List.contains_nil, Bool.or_false, Bool.or_eq_false_iff, beq_eq_false_iff_ne]
    omega
  have hst : ∀ (i : Nat) (o : Oper), i < p → L[i]? = some o → XOK C L k σ.h h' σ.n m' (modeOf L s i) o (TDn L (fun i => vs.getD i (.tup [])) σ.t (fun _ => true) i) (vs.getD i (.tup [])) := fun i o hi ho => by
    obtain ⟨μ, hμ, hm⟩ := h2 i o (by rw [List.getElem?_take, if_pos hi]; exact ho)
    rw [TDn_take _ _ _ _ i (by omega)] at hm
    have : μ = modeOf L s i := by
      rw [← hms] at hμ
      simp only [modesOf, List.getElem?_map, List.getElem?_range hi, Option.map_some, Option.some.injEq] at hμ
      exact hμ.symm
    rw [← this]
    exact hm
  have hN : ∀ (i : Nat) (o : Oper), L[i]? = some o → ∀ d, o.dst = some d → d < C.N := fun i o ho => okOps_mem hki.1 (List.mem_of_getElem? ho)
  obtain ⟨F, hF⟩ : ∃ F, L.length = F + 2 := ⟨L.length - 2, by omega⟩
  have l0 : ∀ i, dOf (Array.replicate L.length false) i = false := dOf_none _
  have l1 : ∀ i, dOf ((Array.replicate L.length false).setIfInBounds d1 true) i = if i = d1 then true else false := fun i => by rw [dOf_set (by simp; omega), l0]
  have l2 : ∀ i, dOf (((Array.replicate L.length false).setIfInBounds d1 true).setIfInBounds d2 true) i = if i = d2 then true else if i = d1 then true else false := fun i => by rw [dOf_set (by simp; omega), l1]
  have c1 := cnt_set (D := dOf (Array.replicate L.length false)) (D' := dOf ((Array.replicate L.length false).setIfInBounds d1 true)) (q := d1) (n := L.length) (by omega) (l0 d1) (by rw [l1, if_pos rfl]) (fun j hj => by rw [l1, if_neg hj, l0])
  have c2 := cnt_set (D := dOf ((Array.replicate L.length false).setIfInBounds d1 true)) (D' := dOf (((Array.replicate L.length false).setIfInBounds d1 true).setIfInBounds d2 true)) (q := d2) (n := L.length) (by omega) (by rw [l1, if_neg (fun e => hne e.symm)]) (by rw [l2, if_pos rfl]) (fun j hj => by rw [l2, if_neg hj, l1])
  rw [cnt_none] at c1
  have hq := any_quietX (C := C) (k := k) (h := σ.h) (h' := h') (m := σ.n) (m' := m') (s := s) hDp hs0 ok hp hki.1 (V := fun i => vs.getD i (.tup [])) (t0 := σ.t) hst
    (fun ι S a w hs => by
      rw [h1] at ha
      exact AWn_sound _ _ _ _ _ ha okC (List.drop_suffix _ _) hki.1 hki.2 ι S a w hs)
    F (((Array.replicate L.length false).setIfInBounds d1 true).setIfInBounds d2 true) (by simp) (fun i hi j hj => by
      rw [l2] at hi
      split at hi
      · rename_i e; subst e; rw [hp2] at hj; cases hj
      · split at hi
        · rename_i e; subst e; rw [hp1] at hj; cases hj
        · cases hi) (fun i hi => by
      rw [l2] at hi
      split at hi
      · omega
      · split at hi
        · omega
        · cases hi) (fun i hi => by
      simp only [List.contains_cons, List.contains_nil, Bool.or_false, Bool.or_eq_true, beq_iff_eq] at hi
      rw [l2]
      rcases hi with e | e
      · rw [if_pos e]; split <;> rfl
      · rw [if_pos e])
    (by omega)
  have hs2 : dOf (((Array.replicate L.length false).setIfInBounds d1 true).setIfInBounds d2 true) s = false := by
    rw [l2, if_neg (fun e => hd2.2.1 e.symm), if_neg (fun e => hd1.2.1 e.symm)]
  rw [hs2] at hq
  have hq1 := dry_take (C := C) (k := k) (h := σ.h) (m := σ.n) (V := fun i => vs.getD i (.tup [])) (t0 := σ.t) (fuel := F) (listed := (Array.replicate L.length false).setIfInBounds d1 true) ok hp hd2.1 hro ho2 hm2 hg2 hnos hf2 hr2 (hN d2 o2 ho2)
    ((hst d2 o2 hd2.1 ho2).fore (.inl hd2.2.2)) (by simp) (fun i hi j hj => by
      rw [l1] at hi
      split at hi
      · rename_i e; subst e; rw [hp1] at hj; cases hj
      · cases hi) hq
  have hq0 := dry_take (C := C) (k := k) (h := σ.h) (m := σ.n) (V := fun i => vs.getD i (.tup [])) (t0 := σ.t) (fuel := F + 1) (listed := Array.replicate L.length false) ok hp hd1.1 hro ho1 hm1 hg1 hnos hf1 hr1 (hN d1 o1 ho1)
    ((hst d1 o1 hd1.1 ho1).fore (.inl hd1.2.2)) (by simp) (fun i hi j hj => by rw [l0] at hi; cases hi) hq1
  have := hq0 ι S a { w with drawn := w.drawn + 1 } (by
      have hs' := hs.quiet (Quiet.drew w)
      refine ⟨hs'.mem, hs'.tsz, fun x v hx => hs'.tm x v ?_, hs'.def0⟩
      rw [← hx]
      exact (lk_TDn_skip _ x (i := 0) (Nat.zero_le _) (fun q _ _ hq => by rw [dOf_none] at hq; cases hq)).symm)
  rw [← hF] at this
  simpa using this
end
section
variable {C : Cx} {n : Nat} {all os : List Oper} {o : Oper} {k : List Item} {σ : St}
/-- unsafe.SliceData of nil -/
theorem step_sliceDataNil {L : List Oper} {h : Heap} {m : Nat} {t : List (Nat × AV)} {x : Operand} {T : TypeId} (hgd : o.guard = none) (ho : o.op = .call { callee := .builtin .unsafeSliceData, args := #[x], argTypes := #[T] })
    (hx : ev ⟨pickT t (o.looksAt L.toArray), h, m⟩ x = some (true, .s (.slice none 0 0))) : StepOK C L k h m o t (mkg true (.s (.pointer none))) := by
  refine step_hand hgd fun ι S a w hs => ?_
  have e1 := vr_v (ev_sound hs hx rfl)
  have hr : (Builtin.unsafeSliceData_ #[T] o.type #[.slice none 0 0]).run C.P w = .ok (.pointer none) w := rfl
  refine ⟨.pointer none, ?_, mk_v rfl⟩
  simp [execOp, ho, resolve, invoke, builtin, e1, hr]
/-- unsafe.String of nothing -/
theorem AW.unsafeStringNil {x y : Operand} {pt it : TypeId} (hgd : o.guard = none) (ho : o.op = .call { callee := .builtin .unsafeString, args := #[x, y], argTypes := #[pt, it] })
    (hx : ev σ x = some (true, .s (.pointer none))) (hy : ev σ y = some (true, .s (.int .i64 0))) (hk : AWn C n all os k (σ.put o.dst (.s (str [])))) : AW C all (o :: os) k σ := by
  refine AW.op _ hgd (fun ι S a w hs => ?_) hk
  have e1 := vr_v (ev_sound hs hx rfl)
  have e2 := vr_v (ev_sound hs hy rfl)
  have hr := Lib.run_unsafeString_none (P := C.P) w pt it o.type none
  refine .same hs (y := .string ⟨⟨[]⟩⟩) ?_ (mk_v rfl)
  simp [execOp, ho, resolve, invoke, builtin, e1, e2, hr]
  rfl
end
end Go.Fw

namespace Go.Fw
set_option linter.defProp false
/-- rewriting rules of the walks -/
def pk0 := And.intro @BR_split <| And.intro @looksAt_eq <| And.intro @true_implies <| And.intro @false_implies <| And.intro @true_and <| And.intro @and_true <| And.intro @false_and <| And.intro @and_false <| And.intro @if_true.{1} <| And.intro @if_false.{1} <| And.intro @beq_self_eq_true.{0} <| And.intro @not_false_eq_true <| And.intro @not_true_eq_false <| And.intro @eq_self.{1} <| And.intro @wrap_i64 <| And.intro @wrap_u8 <| And.intro @wrap_i32 <| And.intro @wrap_u64 <| And.intro @List.take_length.{0} <| And.intro @List.length_map.{0, 0} <| And.intro @List.length_append.{0} <| And.intro @take_len_map <| And.intro @imp_self <| And.intro @decide_eq_true_eq <| And.intro @decide_eq_false_iff_not <| And.intro @Int.ofNat_lt <| And.intro @Int.ofNat_le <| And.intro @Int.natCast_nonneg <| And.intro @and_self <| And.intro @Bool.and_eq_true <| And.intro @Bool.false_eq_true <| And.intro @Bool.cond_self.{1} <| @Nat.zero_add
end Go.Fw

namespace Go.Fw
open Go
theorem Ja : type_of% @strip_mkg := @strip_mkg
theorem Jb : type_of% @mkg_true := @mkg_true
theorem Jc : type_of% @mkg_false := @mkg_false
theorem Jd : type_of% @BR_true := @BR_true
theorem Je : type_of% @BR_false := @BR_false
theorem Jf : type_of% @bl_mk := @bl_mk
theorem Jg : type_of% @Array.toList_append.{0} := @Array.toList_append.{0}
theorem Jh : type_of% @List.append_nil.{0} := @List.append_nil.{0}
theorem Ji : type_of% @List.toList_toArray.{0} := @List.toList_toArray.{0}
theorem Jj : type_of% @List.getElem?_cons_zero.{0} := @List.getElem?_cons_zero.{0}
theorem Jk : type_of% @List.getElem?_cons_succ.{0} := @List.getElem?_cons_succ.{0}
theorem Jl : type_of% @List.getElem?_nil.{0} := @List.getElem?_nil.{0}
theorem Jm : type_of% @Option.bind_some.{0, 0} := @Option.bind_some.{0, 0}
theorem Jn : type_of% @Option.map_some.{0, 0} := @Option.map_some.{0, 0}
theorem Jo : type_of% @Option.map_none.{0, 0} := @Option.map_none.{0, 0}
theorem Jp : type_of% @Bool.true_and := @Bool.true_and
theorem Jq : type_of% @Bool.and_true := @Bool.and_true
theorem Jr : type_of% @Bool.false_and := @Bool.false_and
theorem Js : type_of% @Bool.and_false := @Bool.and_false
theorem Jt : type_of% @List.getD_cons_zero.{0} := @List.getD_cons_zero.{0}
theorem Ju : type_of% @List.getD_cons_succ.{0} := @List.getD_cons_succ.{0}
theorem Jv : type_of% @List.getD_nil.{0} := @List.getD_nil.{0}
theorem Jw : type_of% @List.length_cons.{0} := @List.length_cons.{0}
theorem Jx : type_of% @List.length_nil.{0} := @List.length_nil.{0}
theorem Jy : type_of% @ne_eq.{1} := @ne_eq.{1}
theorem Jz : type_of% @cond_true.{1} := @cond_true.{1}
theorem Ka : type_of% @cond_false.{1} := @cond_false.{1}
theorem Kb : type_of% @Bool.not_true := @Bool.not_true
theorem Kc : type_of% @Bool.not_false := @Bool.not_false
theorem Kd : type_of% @List.map_cons.{0, 0} := @List.map_cons.{0, 0}
theorem Ke : type_of% @List.map_nil.{0, 0} := @List.map_nil.{0, 0}
theorem Kf : type_of% @List.drop_zero.{0} := @List.drop_zero.{0}
theorem Kg : type_of% @List.drop_succ_cons.{0} := @List.drop_succ_cons.{0}
theorem Kh : type_of% @List.take_succ_cons.{0} := @List.take_succ_cons.{0}
theorem Ki : type_of% @List.take_zero.{0} := @List.take_zero.{0}
theorem Kj : type_of% @List.cons_append.{0} := @List.cons_append.{0}
theorem Kk : type_of% @List.nil_append.{0} := @List.nil_append.{0}
theorem Kl : type_of% @List.all_cons.{0} := @List.all_cons.{0}
theorem Km : type_of% @List.all_nil.{0} := @List.all_nil.{0}
theorem Kn : type_of% @List.set_cons_zero.{0} := @List.set_cons_zero.{0}
theorem Ko : type_of% @List.set_cons_succ.{0} := @List.set_cons_succ.{0}
theorem Kp : type_of% @Nat.add_zero := @Nat.add_zero
theorem Kq : type_of% @Int.toNat_natCast := @Int.toNat_natCast
theorem Kr : type_of% @Int.cast_ofNat_Int := @Int.cast_ofNat_Int
theorem Ks : type_of% @List.replicate_zero.{0} := @List.replicate_zero.{0}
theorem Kt : type_of% @Nat.mul_one := @Nat.mul_one
theorem Ku : type_of% @decide_true := @decide_true
theorem Kv : type_of% @decide_false := @decide_false
end Go.Fw
