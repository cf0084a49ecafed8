/-
  Fw20: regions whose operations may come in more than one order, one of them a store.
-/
import Derived.Test.YtddbbfonkgccnaaDoorFw19
set_option linter.unusedVariables false
namespace Go.Fw
open Go

/-- an operation goes from one heap to another, from wherever it is ready -/
def StepTo (C : Cx) (L : List Oper) (k : List Item) (h h' : Heap) (m : Nat) (o : Oper) (t : List (Nat × AV)) (v : AV) : Prop :=
  ∀ u ι S a w, Sim C.E C.N ⟨u, h, m⟩ ι S a w → (∀ x ∈ o.looksAt L.toArray, ∀ z, lk x t = some z → lk x u = some z) → (∀ d, o.dst = some d → d < C.N) →
    ∀ next : Act → World → Prop, (∀ ι' S' a' w', Sim C.E C.N ⟨putT u o.dst v, h', m⟩ ι' S' a' w' → next a' w') →
      (Region.wanted o (yielded L.toArray a.tmps) = true → o.wp C.P a w next (QN C k)) ∧ (Region.wanted o (yielded L.toArray a.tmps) = false → next (a.put o.dst undef) w)
/-- where an operation stands to the store: 3 it is the store, 1 ahead of it, 2 behind it, 0 on either side -/
def modeOf (L : List Oper) (s i : Nat) : Nat := bif i == s then 3 else bif reach L 9 s i then 1 else bif reach L 9 i s then 2 else 0
def modesOf (L : List Oper) (s p : Nat) : List Nat := (List.range p).map (modeOf L s)
structure MOK (C : Cx) (L : List Oper) (k : List Item) (h h' : Heap) (m μ : Nat) (o : Oper) (t : List (Nat × AV)) (v : AV) : Prop where
  at3 : μ = 3 → StepTo C L k h h' m o t v
  fore : μ = 0 ∨ μ = 1 → StepOK C L k h m o t v
  back : μ = 0 ∨ μ = 2 → StepOK C L k h' m o t v

section
variable (C : Cx) (L : List Oper) (fuel : Nat) (tail : List Oper) (k : List Item) (h h' : Heap) (m : Nat)
mutual
def VMc : List Nat → List Oper → Oper → List (Nat × AV) → Bool → Res → Res → Prop
  | ms, os, o, t, c, .val need v _, .val need' v' _ => (c = true → need ∧ need') ∧ v' = v ∧ VM ms os (putT t o.dst (mkg c v))
  | _, _, _, _, _, _, _ => False
def VMp : List Nat → List Oper → Oper → List (Nat × AV) → Bool → Res → Prop
  | ms, os, o, t, c, .call need f args => ∃ as r, (c = true → need ∧ enters C.P f = true ∧ AV.fzs args = some as ∧ PC C.P f as (· = r)) ∧ VM ms os (putT t o.dst (mkg c (.f r)))
  | ms, os, o, t, c, .val _ _ _ => False
  | ms, os, o, t, c, .bad => False
def VMz : List Nat → List Oper → Oper → List (Nat × AV) → Bool → Prop → Option (Prop × FV × St) → Prop
  | ms, os, o, t, c, need, some (d, y, _) => (c = true → need ∧ d) ∧ VM ms os (putT t o.dst (mkg c (.f y)))
  | _, _, _, _, _, _, none => False
def VMf : List Nat → List Oper → Oper → List (Nat × AV) → Bool → Res → Prop
  | ms, os, o, t, c, .val need v σ' => VMz ms os o t c need (release σ' v)
  | _, _, _, _, _, _ => False
def VMs : List Nat → List Oper → Oper → List (Nat × AV) → Bool → Option (Bool × AV) → Res → Prop
  | ms, os, o, t, c, some (_, .ptr _ _), .val need v σ' => (c = true → need) ∧ (bif c then σ'.h else h) = h' ∧ VM ms os (putT t o.dst (mkg c v))
  | _, _, _, _, _, _, _ => False
def VMo : List Nat → List Oper → Oper → List (Nat × AV) → Bool → Op → Prop
  | ms, os, o, t, c, .store T x y => VMs ms os o t c (ev ⟨pickT t (o.looksAt L.toArray), h, m⟩ x) (aStore ⟨pickT t (o.looksAt L.toArray), h, m⟩ (ev ⟨pickT t (o.looksAt L.toArray), h, m⟩ x) (ev ⟨pickT t (o.looksAt L.toArray), h, m⟩ y) (tk C.P T))
  | _, _, _, _, _, _ => False
def VMk : List Nat → List Oper → Oper → List (Nat × AV) → Bool → Nat → Nat → Prop
  | ms, os, o, t, c, 3, _ => VMo ms os o t c o.op
  | ms, os, o, t, c, 0, 0 => VMc ms os o t c (aop (tk C.P) ⟨pickT t (o.looksAt L.toArray), h, m⟩ o.op) (aop (tk C.P) ⟨pickT t (o.looksAt L.toArray), h', m⟩ o.op)
  | ms, os, o, t, c, 1, 0 => VMc ms os o t c (aop (tk C.P) ⟨pickT t (o.looksAt L.toArray), h, m⟩ o.op) (aop (tk C.P) ⟨pickT t (o.looksAt L.toArray), h, m⟩ o.op)
  | ms, os, o, t, c, 2, 0 => VMc ms os o t c (aop (tk C.P) ⟨pickT t (o.looksAt L.toArray), h', m⟩ o.op) (aop (tk C.P) ⟨pickT t (o.looksAt L.toArray), h', m⟩ o.op)
  | ms, os, o, t, c, _, 1 => VMf ms os o t c (aop (tk C.P) ⟨pickT t (o.looksAt L.toArray), [], m⟩ o.op)
  | ms, os, o, t, c, _, 2 => VMp ms os o t c (aop (tk C.P) ⟨pickT t (o.looksAt L.toArray), h, m⟩ o.op)
  | _, _, _, _, _, _, _ => False
def VMg : List Nat → List Oper → Oper → List (Nat × AV) → Nat → Option Bool → Prop
  | ms, os, o, t, μ, some c => VMk ms os o t c μ (qk o.op)
  | _, _, _, _, _, none => False
def VM : List Nat → List Oper → List (Nat × AV) → Prop
  | _, [], t => AWn C fuel L tail k ⟨t, h', m⟩
  | μ :: ms, o :: os, t => VMg ms os o t μ (guardOf L ⟨pickT t (o.looksAt L.toArray), h, m⟩ o.guard)
  | [], _ :: _, _ => False
end
end

def ChainM (C : Cx) (L : List Oper) (k : List Item) (h h' : Heap) (m : Nat) : List Nat → List Oper → List (Nat × AV) → List AV → List (Nat × AV) → Prop
  | _, [], t, vs, t' => vs = [] ∧ t' = t
  | μ :: ms, o :: os, t, vs, t' => ∃ v vs', vs = v :: vs' ∧ MOK C L k h h' m μ o t v ∧ ChainM C L k h h' m ms os (putT t o.dst v) vs' t'
  | [], _ :: _, _, _, _ => False

section
variable {C : Cx} {L : List Oper} {fuel : Nat} {tail : List Oper} {k : List Item} {h h' : Heap} {m : Nat}

theorem ev_heap (t : List (Nat × AV)) (x : Operand) (g1 g2 : Heap) (n1 n2 : Nat) : ev ⟨t, g1, n1⟩ x = ev ⟨t, g2, n2⟩ x := by cases x <;> rfl
theorem evl_heap (t : List (Nat × AV)) (g1 g2 : Heap) (n1 n2 : Nat) : ∀ xs : List Operand, evl ⟨t, g1, n1⟩ xs = evl ⟨t, g2, n2⟩ xs
  | [] => rfl
  | x :: xs => by simp only [evl]; rw [ev_heap t x g1 g2 n1 n2, evl_heap t g1 g2 n1 n2 xs]
theorem guardOf_heap (t : List (Nat × AV)) (g1 g2 : Heap) (n1 n2 : Nat) (ops : List Oper) (g : Option (Nat × Bool)) : guardOf ops ⟨t, g1, n1⟩ g = guardOf ops ⟨t, g2, n2⟩ g := by
  unfold guardOf
  split
  · rfl
  · split
    · rw [ev_heap t _ g1 g2 n1 n2]
    · rfl
theorem call_heap {P : Program} {t : List (Nat × AV)} {g1 : Heap} {n1 : Nat} {op : Op} {need : Prop} {f : FuncId} {args : List AV} (g2 : Heap) (hq : qk op = 2) (h : aop (tk P) ⟨t, g1, n1⟩ op = .call need f args) : aop (tk P) ⟨t, g2, n1⟩ op = .call need f args := by
  cases op with
  | call c =>
    simp only [aop, qk] at h hq ⊢
    split at hq
    · cases hq
    · rename_i hc
      simp only [hc] at h ⊢
      rw [ev_heap t _ g2 g1 n1 n1, evl_heap t g2 g1 n1 n1]
      exact h
    · cases hq
  | _ => simp [qk] at hq

theorem ev_pick {t u : List (Nat × AV)} {xs : List Nat} {g : Heap} {n : Nat} {x : Operand} {r : Bool × AV} (hl : ∀ x ∈ xs, ∀ z, lk x t = some z → lk x u = some z) (h : ev ⟨pickT t xs, g, n⟩ x = some r) : ev ⟨u, g, n⟩ x = some r := by
  cases x with
  | tmp d =>
    simp only [ev, evo] at h ⊢
    cases hd : lk d (pickT t xs) with
    | none => rw [hd] at h; cases h
    | some z =>
      rw [hd] at h
      obtain ⟨h1, h2⟩ := lk_pickT t xs d hd
      rw [hl d h1 z h2]
      exact h
  | _ => exact h

theorem aStore_ptr {t u : List (Nat × AV)} {g : Heap} {n : Nat} {c : Bool} {id off : Nat} {B : Option (Bool × AV)} {K : Option TK} {need : Prop} {v : AV} {σ' : St} (h : aStore ⟨t, g, n⟩ (some (c, .ptr id off)) B K = .val need v σ') : σ'.n = n ∧ aStore ⟨u, g, n⟩ (some (c, .ptr id off)) B K = .val need v ⟨u, σ'.h, n⟩ := by
  match B, K with
  | some (d, w), some kk =>
    simp only [aStore] at h ⊢
    cases hl : lk id g with
    | none => rw [hl] at h; cases h
    | some ob =>
      rw [hl] at h
      cases ob <;> first | (cases h; done) | skip
      cases h
      exact ⟨rfl, rfl⟩
  | none, _ => simp [aStore] at h
  | some _, none => simp [aStore] at h

theorem step_store {o : Oper} {t : List (Nat × AV)} {c : Bool} {need : Prop} {v : AV} {σ' : St} {T : TypeId} {x y : Operand} {c1 : Bool} {id off : Nat} (ho : o.op = .store T x y) (hg : guardOf L ⟨pickT t (o.looksAt L.toArray), h, m⟩ o.guard = some c)
    (hx : ev ⟨pickT t (o.looksAt L.toArray), h, m⟩ x = some (c1, .ptr id off))
    (hr : aStore ⟨pickT t (o.looksAt L.toArray), h, m⟩ (ev ⟨pickT t (o.looksAt L.toArray), h, m⟩ x) (ev ⟨pickT t (o.looksAt L.toArray), h, m⟩ y) (tk C.P T) = .val need v σ') (hn : c = true → need) (hh : (bif c then σ'.h else h) = h') :
    StepTo C L k h h' m o t (mkg c v) := by
  intro u ι S a w hs hl hd next hnext
  have hp := sim_pick hs hl
  have hw := guard_sound (C := C) hp hg
  rw [hw]
  constructor
  · rintro rfl
    simp only [cond_true] at hh
    rw [hx] at hr
    obtain ⟨hn1, hr1⟩ := aStore_ptr (u := u) hr
    have hxu := ev_pick (g := h) (n := m) hl hx
    obtain ⟨ry, hy⟩ : ∃ ry, ev ⟨pickT t (o.looksAt L.toArray), h, m⟩ y = some ry := by
      cases hy : ev ⟨pickT t (o.looksAt L.toArray), h, m⟩ y with
      | some r => exact ⟨r, rfl⟩
      | none => rw [hy] at hr; simp [aStore] at hr
    have hyu := ev_pick (g := h) (n := m) hl hy
    rw [hy] at hr1
    have hop : aop (tk C.P) ⟨u, h, m⟩ o.op = .val need v ⟨u, σ'.h, m⟩ := by
      rw [ho]; simp only [aop]; rw [hxu, hyu]; exact hr1
    rw [hh] at hop
    refine wp_of_good (aop_sound hs hop (hn rfl)) hd ?_
    intro ι' S' a' w' hs'
    rw [put_putT] at hs'
    exact hnext ι' S' a' w' hs'
  · rintro rfl
    simp only [cond_false] at hh
    subst hh
    refine hnext ι S _ w ?_
    rw [← put_putT]
    exact put_false hs hd v

theorem VM_chain : ∀ (ms : List Nat) (os : List Oper) (t : List (Nat × AV)), VM C L fuel tail k h h' m ms os t → ∃ vs t', ChainM C L k h h' m ms os t vs t' ∧ AWn C fuel L tail k ⟨t', h', m⟩
  | ms, [], t, hv => by
    cases ms <;> simp only [VM] at hv <;> exact ⟨[], t, ⟨rfl, rfl⟩, hv⟩
  | [], o :: os, t, hv => by simp only [VM] at hv
  | μ :: ms, o :: os, t, hv => by
    simp only [VM] at hv
    cases hg : guardOf L ⟨pickT t (o.looksAt L.toArray), h, m⟩ o.guard with
    | none => rw [hg] at hv; simp only [VMg] at hv
    | some c =>
      have hg' : guardOf L ⟨pickT t (o.looksAt L.toArray), h', m⟩ o.guard = some c := by rw [← hg]; exact guardOf_heap _ _ _ _ _ _ _
      rw [hg] at hv
      simp only [VMg] at hv
      have fin : ∀ v, MOK C L k h h' m μ o t v → VM C L fuel tail k h h' m ms os (putT t o.dst v) → ∃ vs t', ChainM C L k h h' m (μ :: ms) (o :: os) t vs t' ∧ AWn C fuel L tail k ⟨t', h', m⟩ := by
        intro v hst hvq
        obtain ⟨vs, t', hc, ha⟩ := VM_chain ms os _ hvq
        exact ⟨v :: vs, t', ⟨v, vs, rfl, hst, hc⟩, ha⟩
      unfold VMk at hv
      split at hv
      · -- the store
        unfold VMo at hv
        split at hv
        · rename_i T x y ho
          unfold VMs at hv
          split at hv
          · rename_i e1 e2
            obtain ⟨h1, h2, h3⟩ := hv
            exact fin _ ⟨fun _ => step_store ho hg e1 e2 h1 h2, fun h => by omega, fun h => by omega⟩ h3
          · exact hv.elim
        · exact hv.elim
      · rename_i hq
        unfold VMc at hv
        split at hv
        · rename_i e1 e2
          obtain ⟨h1, rfl, h3⟩ := hv
          exact fin _ ⟨fun h => by omega, fun _ => step_val hq hg e1 fun hc => (h1 hc).1, fun _ => step_val hq hg' e2 fun hc => (h1 hc).2⟩ h3
        · exact hv.elim
      · rename_i hq
        unfold VMc at hv
        split at hv
        · rename_i e1 e2
          obtain ⟨h1, h2, h3⟩ := hv
          exact fin _ ⟨fun h => by omega, fun _ => step_val hq hg e1 fun hc => (h1 hc).1, fun h => by omega⟩ h3
        · exact hv.elim
      · rename_i hq
        unfold VMc at hv
        split at hv
        · rename_i e1 e2
          obtain ⟨h1, h2, h3⟩ := hv
          exact fin _ ⟨fun h => by omega, fun h => by omega, fun _ => step_val hq hg' e1 fun hc => (h1 hc).1⟩ h3
        · exact hv.elim
      · rename_i hn hq
        unfold VMf at hv
        split at hv
        · rename_i e1
          unfold VMz at hv
          split at hv
          · rename_i e2
            exact fin _ ⟨fun h => absurd h hn, fun _ => step_frz hg e1 e2 hv.1, fun _ => step_frz hg' e1 e2 hv.1⟩ hv.2
          · exact hv.elim
        · exact hv.elim
      · rename_i hn hq
        unfold VMp at hv
        split at hv
        · rename_i e1
          obtain ⟨as, r, h1, h2⟩ := hv
          exact fin _ ⟨fun h => absurd h hn, fun _ => step_call hg e1 h1, fun _ => step_call hg' (call_heap _ hq e1) h1⟩ h2
        · exact hv.elim
        · exact hv.elim
      · exact hv.elim

theorem chain_getM : ∀ {ms : List Nat} {os : List Oper} {t : List (Nat × AV)} {vs : List AV} {t' : List (Nat × AV)}, ChainM C L k h h' m ms os t vs t' →
    t' = TDn os (fun i => vs.getD i (.tup [])) t (fun _ => true) os.length ∧ ∀ i o, os[i]? = some o → ∃ μ, ms[i]? = some μ ∧ MOK C L k h h' m μ o (TDn os (fun i => vs.getD i (.tup [])) t (fun _ => true) i) (vs.getD i (.tup []))
  | ms, [], t, vs, t', hc => by
    have : vs = [] ∧ t' = t := by cases ms <;> exact hc
    obtain ⟨rfl, rfl⟩ := this; exact ⟨rfl, fun i o h => by simp at h⟩
  | [], o :: os, t, vs, t', hc => by exact (hc : False).elim
  | μ :: ms, o :: os, t, vs, t', hc => by
    obtain ⟨v, vs', rfl, hst, hc⟩ := hc
    obtain ⟨h1, h2⟩ := chain_getM hc
    have key : ∀ i, TDn (o :: os) (fun i => (v :: vs').getD i (.tup [])) t (fun _ => true) (i + 1) = TDn os (fun i => vs'.getD i (.tup [])) (putT t o.dst v) (fun _ => true) i := by
      intro i
      induction i with
      | zero => simp [TDn, putO]
      | succ i ih =>
        rw [TDn, ih]
        simp only [TDn, List.getElem?_cons_succ, List.getD_cons_succ]
    refine ⟨by rw [h1, List.length_cons, key], ?_⟩
    intro i o' ho
    cases i with
    | zero =>
      simp only [List.getElem?_cons_zero, Option.some.injEq] at ho
      subst ho
      exact ⟨μ, rfl, hst⟩
    | succ i =>
      rw [key]
      simp only [List.getElem?_cons_succ] at ho
      obtain ⟨μ', e, h3⟩ := h2 i o' ho
      exact ⟨μ', by simpa using e, h3⟩
end

section
variable {C : Cx} {L : List Oper} {k : List Item} {h h' : Heap} {m p s : Nat}
def hpD (h h' : Heap) (b : Bool) : Heap := match b with | true => h' | false => h
theorem any_quietM (hs0 : s < p) (ok : DrawOK p L) (hp : p ≤ L.length) (hokd : okOps C.N L = true) {V : Nat → AV} {t0 : List (Nat × AV)} (hstep : ∀ i o, i < p → L[i]? = some o → MOK C L k h h' m (modeOf L s i) o (TDn L V t0 (fun _ => true) i) (V i))
    (hend : ∀ ι S a w, Sim C.E C.N ⟨TDn L V t0 (fun _ => true) p, h', m⟩ ι S a w → At C L (L.drop p) k a w) : ∀ (fuel : Nat) (listed : Array Bool), listed.size = L.length → (∀ i, dOf listed i = true → ∀ j ∈ predsOf L i, dOf listed j = true) →
    (∀ i, dOf listed i = true → i < p) → fuel + cnt (dOf listed) L.length = L.length →
    ∀ ι S a w, Sim C.E C.N ⟨TDn L V t0 (dOf listed) p, hpD h h' (dOf listed s), m⟩ ι S a w → wpAnyIn C.F 0 C.P .any L.toArray (QN C k) fuel listed a w := by
  intro fuel
  induction fuel with
  | zero =>
    intro listed hsz hdown hlt hf ι S a w hs
    have hfull := cnt_full (n := L.length) (D := dOf listed) (by omega)
    have hpe : p = L.length := by
      rcases Nat.eq_or_lt_of_le hp with e | hl
      · exact e
      · have := hlt p (hfull p hl); omega
    have hsd : dOf listed s = true := hfull s (by omega)
    rw [hsd] at hs
    refine any_tail ok 0 listed p hsz (Nat.le_refl _) hp (fun i hi => ⟨fun h => hlt i h, fun h => hfull i hi⟩) (by omega) a w (hend ι S a w ?_)
    refine ⟨hs.mem, hs.tsz, fun x v hx => hs.tm x v ?_, hs.def0⟩
    rw [← hx]
    exact lk_TDn_congr x fun q hq _ => hfull q (by omega)
  | succ fuel ih =>
    intro listed hsz hdown hlt hf ι S a w hs
    by_cases hall : ∀ i, i < p → dOf listed i = true
    · -- all quiet ones are done
      have hsd : dOf listed s = true := hall s hs0
      rw [hsd] at hs
      have hcnt : cnt (dOf listed) L.length = p := by
        have key : ∀ n, cnt (dOf listed) n = if n ≤ p then n else p := by
          intro n
          induction n with
          | zero => simp [cnt]
          | succ n ihn =>
            simp only [cnt, ihn]
            by_cases hn : n < p
            · rw [hall n hn]
              simp only [if_true]
              rw [if_pos (by omega), if_pos (by omega)]
            · have : ¬ dOf listed n = true := fun h => hn (hlt n h)
              rw [if_neg this]
              split <;> split <;> omega
        rw [key]; split <;> omega
      refine any_tail ok (fuel + 1) listed p hsz (Nat.le_refl _) hp (fun i hi => ⟨fun h => hlt i h, fun h => hall i h⟩) (by omega) a w (hend ι S a w ?_)
      refine ⟨hs.mem, hs.tsz, fun x v hx => hs.tm x v ?_, hs.def0⟩
      rw [← hx]
      exact lk_TDn_congr x fun q hq _ => hall q hq
    · have hnot : ∃ q, q < p ∧ dOf listed q = false := by
        apply Classical.byContradiction
        intro hne
        apply hall
        intro i hi
        cases hd : dOf listed i with
        | true => rfl
        | false => exact absurd ⟨i, hi, hd⟩ hne
      have hleast : ∃ q, q < p ∧ dOf listed q = false ∧ ∀ j, j < q → dOf listed j = true := by
        obtain ⟨q, hq⟩ := hnot
        induction q using Nat.strongRecOn with
        | _ q ihq =>
          by_cases he : ∀ j, j < q → dOf listed j = true
          · exact ⟨q, hq.1, hq.2, he⟩
          · have : ∃ j, j < q ∧ dOf listed j = false := by
              apply Classical.byContradiction
              intro hne
              apply he
              intro j hj
              cases hd : dOf listed j with
              | true => rfl
              | false => exact absurd ⟨j, hj, hd⟩ hne
            obtain ⟨j, hj, hd⟩ := this
            exact ihq j hj ⟨by omega, hd⟩
      obtain ⟨q, hqp, hqD, hqb⟩ := hleast
      have hready : q ∈ Region.ready .any L.toArray listed := (ready_mem hsz).2 ⟨by omega, hqD, fun j hj => hqb j (ok.down q j (by omega) hj)⟩
      refine ⟨fun he => (by rw [he] at hready; cases hready), ?_⟩
      intro i hi
      obtain ⟨h1, h2, h3⟩ := (ready_mem hsz).1 hi
      have hip : i < p := by
        rcases Nat.lt_or_ge i p with hl | hge
        · exact hl
        · exfalso
          have := reach_sound (D := dOf listed) hdown 9 i q h3 (ok.tail i q h1 hge (by omega))
          rw [hqD] at this; cases this
      have hLi : L[i]? = some L[i] := List.getElem?_eq_getElem h1
      have hst := hstep i L[i] hip hLi
      have hd : ∀ d, L[i].dst = some d → d < C.N := okOps_mem hokd (List.getElem_mem h1)
      have pairs : ∀ j, j < p → ∀ x, ((x ∈ (L[i]).looksAt L.toArray ∨ (L[i]).dst = some x) ∧ dstAt L j = some x) → (j < i → j ∈ predsOf L i) ∧ (i < j → i ∈ predsOf L j) := by
        intro j hj x ⟨hx, hdx⟩
        have hjl : j < L.length := by omega
        have hLj : L[j]? = some L[j] := List.getElem?_eq_getElem hjl
        have hdj : L[j].dst = some x := by simpa [dstAt, hLj] using hdx
        constructor
        · intro hji
          have := ok.pair i j h1 hip hji
          simp only [pairOK, hLj, hLi, clash, hdj, Bool.or_eq_true, Bool.not_eq_true', List.contains_iff_mem, Bool.or_eq_false_iff] at this
          rcases this with ⟨⟨h4, h5⟩, _⟩ | h
          · rcases hx with hx | hx
            · have := List.contains_iff_mem.2 hx; rw [h4] at this; cases this
            · rw [hx] at h5; simp at h5
          · exact h
        · intro hij
          have := ok.pair j i hjl hj hij
          simp only [pairOK, hLj, hLi, clash, hdj, Bool.or_eq_true, Bool.not_eq_true', List.contains_iff_mem, Bool.or_eq_false_iff] at this
          rcases this with ⟨h4, h5⟩ | h
          · rcases hx with hx | hx
            · have := List.contains_iff_mem.2 hx; rw [h5] at this; cases this
            · rw [hx] at h4; simp at h4
          · exact h
      have hla : ∀ x ∈ (L[i]).looksAt L.toArray, lk x (TDn L V t0 (dOf listed) p) = lk x (TDn L V t0 (fun _ => true) i) := by
        intro x hx
        rw [lk_TDn_skip (dOf listed) x (i := i) (j := p) (by omega)]
        · refine lk_TDn_congr x fun j hj hdx => ?_
          exact h3 j ((pairs j (by omega) x ⟨.inl hx, hdx⟩).1 hj)
        · intro j hj1 hj2 hDj hdx
          rcases Nat.eq_or_lt_of_le hj1 with e | hlt'
          · subst e; rw [h2] at hDj; cases hDj
          · have := hdown j hDj i ((pairs j hj2 x ⟨.inl hx, hdx⟩).2 hlt')
            rw [h2] at this; cases this
      have hlisted : i < listed.size := by omega
      have hnext : ∀ ι' S' a' w', Sim C.E C.N ⟨putT (TDn L V t0 (dOf listed) p) L[i].dst (V i), hpD h h' (dOf (listed.setIfInBounds i true) s), m⟩ ι' S' a' w' → wpAnyIn C.F 0 C.P .any L.toArray (QN C k) fuel (listed.setIfInBounds i true) a' w' := by
        intro ι' S' a' w' hs'
        refine ih _ (by simpa using hsz) ?_ ?_ ?_ ι' S' a' w' ⟨hs'.mem, hs'.tsz, fun x v hx => hs'.tm x v ?_, hs'.def0⟩
        · intro i' hi' j hj
          rw [dOf_set hlisted] at hi' ⊢
          by_cases e : i' = i
          · subst e
            split
            · rfl
            · exact h3 j hj
          · rw [if_neg e] at hi'
            split
            · rfl
            · exact hdown i' hi' j hj
        · intro i' hi'
          rw [dOf_set hlisted] at hi'
          split at hi'
          · rename_i e; omega
          · exact hlt i' hi'
        · rw [cnt_set (D := dOf listed) (q := i) h1 h2 (by rw [dOf_set hlisted, if_pos rfl]) (fun j hj => by rw [dOf_set hlisted, if_neg hj])]
          omega
        · rw [← hx]
          have hput : lk x (putT (TDn L V t0 (dOf listed) p) L[i].dst (V i)) = if L[i].dst = some x then some (V i) else lk x (TDn L V t0 (dOf listed) p) := by
            cases hdd : L[i].dst with
            | none => simp [putT]
            | some d =>
              simp only [putT, lk_cons, Option.some.injEq]
              by_cases e : x = d
              · subst e; simp
              · rw [if_neg e, if_neg (fun h => e h.symm)]
          rw [hput]
          by_cases hdx : L[i].dst = some x
          · rw [if_pos hdx]
            rw [lk_TDn_skip (dOf (listed.setIfInBounds i true)) x (i := i + 1) (j := p) (by omega)]
            · rw [lk_TDn_succ, if_pos ⟨by rw [dOf_set hlisted, if_pos rfl], by simp [dstAt, hLi, hdx]⟩]
            · intro j hj1 hj2 hDj hdj
              rw [dOf_set hlisted, if_neg (by omega)] at hDj
              have := hdown j hDj i ((pairs j hj2 x ⟨.inr hdx, hdj⟩).2 (by omega))
              rw [h2] at this; cases this
          · rw [if_neg hdx]
            refine lk_TDn_congr x fun j hj hdj => ?_
            rw [dOf_set hlisted, if_neg]
            intro e; subst e
            simp only [dstAt, hLi, Option.bind_some] at hdj
            exact hdx hdj
      have hto : StepTo C L k (hpD h h' (dOf listed s)) (hpD h h' (dOf (listed.setIfInBounds i true) s)) m L[i] (TDn L V t0 (fun _ => true) i) (V i) := by
        rw [dOf_set hlisted]
        by_cases e : s = i
        · subst e
          rw [if_pos rfl, h2]
          exact hst.at3 (by simp [modeOf])
        · rw [if_neg e]
          have e' : (i == s) = false := by simp; exact fun h => e h.symm
          cases hds : dOf listed s with
          | true =>
            have hr : reach L 9 s i = false := by
              cases hr : reach L 9 s i with
              | false => rfl
              | true => have := reach_sound (D := dOf listed) hdown 9 s i (hdown s hds) hr
                        rw [h2] at this; cases this
            refine hst.back ?_
            cases hb : reach L 9 i s <;> simp [modeOf, e', hr, hb]
          | false =>
            have hr : reach L 9 i s = false := by
              cases hr : reach L 9 i s with
              | false => rfl
              | true => have := reach_sound (D := dOf listed) hdown 9 i s h3 hr
                        rw [hds] at this; cases this
            refine hst.fore ?_
            cases hb : reach L 9 s i <;> simp [modeOf, e', hr, hb]
      have hres := hto _ ι S a w hs (fun x hx z hz => by rw [hla x hx]; exact hz) hd (wpAnyIn C.F 0 C.P .any L.toArray (QN C k) fuel (listed.setIfInBounds i true)) hnext
      unfold wpOpIn
      simp only [List.getElem?_toArray, hLi]
      cases hw : Region.wanted L[i] (yielded L.toArray a.tmps) with
      | true => simp only [if_true]; exact wp_in (okOps_nd hokd (List.getElem_mem h1)) (hres.1 hw)
      | false => simp only [if_false, Bool.false_eq_true]; exact ⟨fun f _ => C.F_fn f, hres.2 hw⟩


/-- a region with one store that may come ahead of others or behind them -/
theorem ADr.introM {id : Nat} {σ : St} (p s fuel : Nat) (h' : Heap) (ms : List Nat) (hok : drawOK p L = true) (hms : modesOf L s p = ms) (hp : p ≤ L.length) (hs0 : s < p) (hv : VM C L fuel (L.drop p) k σ.h h' σ.n ms (L.take p) σ.t) : ADr C id L k σ := by
  intro okC hsuf hoks hki ι S a w hs
  rw [at_nil]
  have ok := drawOK_spec hok
  simp only [okItems, List.all_cons, Bool.and_eq_true, okItem, okCode] at hki
  obtain ⟨vs, t', hc, ha⟩ := VM_chain _ _ _ hv
  obtain ⟨h1, h2⟩ := chain_getM hc
  have hlen : (L.take p).length = p := by simp; omega
  rw [hlen, TDn_take _ _ _ _ p (Nat.le_refl _)] at h1
  refine goes_of_wpIn (wpIn_region_any okC.mixed ?_)
  have hsz : (Array.replicate L.length false).size = L.length := by simp
  have hdf : ∀ i, dOf (Array.replicate L.length false) i = false := by
    intro i
    simp only [dOf, Array.getD_eq_getD_getElem?]
    by_cases hi : i < L.length <;> simp [hi]
  have hq := any_quietM (C := C) (k := k) (h := σ.h) (h' := h') (m := σ.n) (s := s) hs0 ok hp hki.1 (V := fun i => vs.getD i (.tup [])) (t0 := σ.t)
    (fun i o hi ho => by
      obtain ⟨μ, hμ, hm⟩ := h2 i o (by rw [List.getElem?_take, if_pos hi]; exact ho)
      rw [TDn_take _ _ _ _ i (by omega)] at hm
      have : μ = modeOf L s i := by
        rw [← hms] at hμ
        simp only [modesOf, List.getElem?_map, List.getElem?_range hi, Option.map_some, Option.some.injEq] at hμ
        exact hμ.symm
      rw [← this]
      exact hm)
    (fun ι S a w hs => by
      rw [h1] at ha
      exact AWn_sound _ _ _ _ _ ha okC (List.drop_suffix _ _) hki.1 hki.2 ι S a w hs)
    L.length (Array.replicate L.length false) hsz (fun i hi => by rw [hdf] at hi; cases hi) (fun i hi => by rw [hdf] at hi; cases hi)
    (by
      have : cnt (dOf (Array.replicate L.length false)) L.length = 0 := by
        have key : ∀ n, cnt (dOf (Array.replicate L.length false)) n = 0 := by
          intro n
          induction n with
          | zero => rfl
          | succ n ih => simp [cnt, ih, hdf]
        exact key _
      omega) ι S a { w with drawn := w.drawn + 1 } (by
      have hs' := hs.quiet (Quiet.drew w)
      rw [hdf s]
      refine ⟨hs'.mem, hs'.tsz, fun x v hx => hs'.tm x v ?_, hs'.def0⟩
      rw [← hx]
      have key : ∀ n, lk x (TDn L (fun i => vs.getD i (.tup [])) σ.t (dOf (Array.replicate L.length false)) n) = lk x σ.t := by
        intro n
        exact lk_TDn_skip _ x (i := 0) (Nat.zero_le _) (fun q _ _ hq => by rw [hdf] at hq; cases hq)
      exact (key p).symm)
  simpa using hq
end
end Go.Fw
