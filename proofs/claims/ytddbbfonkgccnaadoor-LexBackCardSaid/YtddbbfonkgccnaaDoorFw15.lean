/-
  Fw15: what a function promises that works on objects handed to it; calls met by such promises.
-/
import Derived.Test.YtddbbfonkgccnaaDoorFw14
set_option linter.unusedVariables false
namespace Go.Fw
open Go

def FinE (E : Ent) (R : AV → St → Prop) (v : Value) (w' : World) : Prop := ∃ av h n ι S, R av ⟨[], h, n⟩ ∧ Mem E h n ι S w' ∧ VR S ι n w' av v
def ownOf (h : Heap) (ι : Nat → Loc) (b : Nat) : Prop := ∃ id o, lk id h = some o ∧ (ι id).b = some b
def entOf (w : World) (ι : Nat → Loc) (n : Nat) (h : Heap) (S : Nat → Prop) : Ent := ⟨w, ι, n, ownOf h ι, S, []⟩

/-- a promise on what is handed in: objects named below n0, values over them -/
def GC (P : Program) (f : FuncId) (n0 : Nat) (h0 : Heap) (args : List AV) (R : AV → St → Prop) : Prop :=
  ∀ (S : Nat → Prop) (ι : Nat → Loc) (w : World) (vals : Array Value), Mem (entOf w ι n0 h0 S) h0 n0 ι S w → VRs S ι n0 w args vals.toList →
    Calls P f vals w fun e w' => ∃ v, e = .returned v ∧ FinE (entOf w ι n0 h0 S) R v w'

theorem GC.mono {P : Program} {f : FuncId} {n0 : Nat} {h0 : Heap} {args : List AV} {R R' : AV → St → Prop} (h : GC P f n0 h0 args R) (hi : ∀ av σ, R av σ → R' av σ) : GC P f n0 h0 args R' := by
  intro S ι w vals hm hv
  refine (h S ι w vals hm hv).mono ?_
  rintro e w' ⟨v, rfl, av, h, n, ι', S', hr, rest⟩
  exact ⟨v, rfl, av, h, n, ι', S', hi _ _ hr, rest⟩

/-- the end may be told more simply: in other names, with less of the memory -/
def RI (E : Ent) (Q : AV → St → Prop) (av : AV) (σ : St) : Prop := ∃ av1 h1 n1, Imp E ⟨[(0, av)], σ.h, σ.n⟩ ⟨[(0, av1)], h1, n1⟩ ∧ Q av1 ⟨[], h1, n1⟩

theorem finE_RI {E : Ent} {Q : AV → St → Prop} {v : Value} {w' : World} (h : FinE E (RI E Q) v w') : FinE E Q v w' := by
  obtain ⟨av, h, n, ι, S, ⟨av1, h1, n1, hi, hq⟩, hm, hv⟩ := h
  have hs : Sim E 1 ⟨[(0, av)], h, n⟩ ι S ⟨#[v], E.defs⟩ w' := ⟨hm, rfl, fun t v' hl => by
    rw [lk_cons] at hl
    split at hl
    · rename_i e; subst e
      simp only [Option.some.injEq] at hl; subst hl
      simpa using hv
    · simp [lk] at hl, rfl⟩
  obtain ⟨ι', S', hs'⟩ := hi _ _ _ _ _ hs
  exact ⟨av1, h1, n1, ι', S', hq, hs'.mem, by simpa using hs'.tm 0 av1 (by simp [lk])⟩

theorem GC.intro {P : Program} {f : FuncId} {fn : Func} {c : Code} {n0 : Nat} {h0 : Heap} {args : List AV} {Q : AV → St → Prop} (n : Nat) (hf : P.funcs[f]? = some fn) (hm : P.follows .mixedOrders = true) (hb : fn.body = some c) (hok : okFn fn args.length = true)
    (h : ∀ E : Ent, E.n = n0 → ∀ Ph Ps, AWn ⟨P, f, fn.ntmps, fn.results.toList, E, RI E Q, none, Ph, Ps⟩ n [] [] [.code c] ⟨slots 0 args, h0, n0⟩) : GC P f n0 h0 args Q := by
  intro S ι w vals hmem hv
  let E := entOf w ι n0 h0 S
  let C : Cx := ⟨P, f, fn.ntmps, fn.results.toList, E, RI E Q, none, fun v w' => ∃ av h n ι S, Q av ⟨[], h, n⟩ ∧ Mem E h n ι S w' ∧ VR S ι n w' av v, fun _ _ => False⟩
  simp only [okFn, hb, Bool.and_eq_true, decide_eq_true_eq] at hok
  have hs : Sim E fn.ntmps ⟨slots 0 args, h0, n0⟩ ι S ⟨vals ++ Array.replicate (fn.ntmps - vals.size) undef, []⟩ w := sim_entry hmem hv hok.2 rfl
  have ok : C.Ok := Cx.Ok.plain (C := C) hf rfl hm rfl rfl fun v w' hF => finE_RI (E := E) hF
  have hg : Goes C [.code c] ⟨vals ++ Array.replicate (fn.ntmps - vals.size) undef, []⟩ w :=
    at_nil.1 (AWn_sound n [] [] _ _ (h E rfl _ _) ok (List.suffix_refl _) rfl (by simp [okItems, okItem, hok.1]) _ _ _ _ hs)
  refine (calls_of_goes (C := C) rfl hf hb hg).mono ?_
  rintro e w' ⟨v, rfl, hF⟩
  exact ⟨v, rfl, hF⟩

/- the call -/
def shift (τ : List (Nat × Nat)) (n0 m : Nat) (i : Nat) : Nat := bif decide (i < n0) then rn τ i else m + (i - n0)
def renH (τ : Nat → Nat) : Heap → Heap
  | [] => []
  | (i, o) :: l => (τ i, o.ren τ) :: renH τ l
def delAll (τ : List (Nat × Nat)) : Heap → Heap → Heap
  | [], h => h
  | (i, _) :: l, h => delAll τ l (hdel (rn τ i) h)
def belowAll (τ : List (Nat × Nat)) (m : Nat) : Nat → Prop
  | 0 => True
  | n + 1 => rn τ n < m ∧ belowAll τ m n
theorem belowAll_spec {τ : List (Nat × Nat)} {m : Nat} : ∀ {n : Nat}, belowAll τ m n → ∀ i, i < n → rn τ i < m
  | n + 1, h, i, hi => by
    simp only [belowAll] at h
    by_cases e : i = n
    · subst e; exact h.1
    · exact belowAll_spec h.2 i (by omega)

theorem lk_append {β : Type} (t : Nat) : ∀ (l l' : List (Nat × β)), lk t (l ++ l') = match lk t l with | some x => some x | none => lk t l'
  | [], l' => rfl
  | (i, v) :: l, l' => by
    simp only [List.cons_append, lk_cons]
    split
    · rfl
    · exact lk_append t l l'
theorem lk_renH (τ : Nat → Nat) : ∀ (h : Heap) (t : Nat) {o : AO}, lk t (renH τ h) = some o → ∃ i o0, t = τ i ∧ lk i h = some o0 ∧ o = o0.ren τ
  | [], t, o, h => by simp [renH, lk] at h
  | (j, v) :: l, t, o, h => by
    simp only [renH, lk_cons] at h
    split at h
    · rename_i e
      simp only [Option.some.injEq] at h
      exact ⟨j, v, e, by rw [lk_cons, if_pos rfl], h.symm⟩
    · rename_i hne
      obtain ⟨i, o0, e, hl, ho⟩ := lk_renH τ l t h
      refine ⟨i, o0, e, ?_, ho⟩
      rw [lk_cons, if_neg]
      · exact hl
      · intro e'; subst e'; exact hne e
theorem lk_delAll (τ : List (Nat × Nat)) : ∀ (l h : Heap) (t : Nat) {o : AO}, lk t (delAll τ l h) = some o → lk t h = some o ∧ ∀ i o', lk i l = some o' → t ≠ rn τ i
  | [], h, t, o, hl => ⟨hl, fun i o' h' => by simp [lk] at h'⟩
  | (j, v) :: l, h, t, o, hl => by
    simp only [delAll] at hl
    obtain ⟨h1, h2⟩ := lk_delAll τ l _ t hl
    rw [lk_hdel] at h1
    split at h1
    · cases h1
    · rename_i hne
      refine ⟨h1, fun i o' hi => ?_⟩
      rw [lk_cons] at hi
      split at hi
      · rename_i e; subst e; exact hne
      · exact h2 i o' hi

section
variable {S : Nat → Prop} {ι ι' : Nat → Loc} {n n' : Nat} {w : World} {τ : Nat → Nat}
mutual
theorem renF_sound (hτ : ∀ i, i < n → τ i < n' ∧ ι' (τ i) = ι i) : ∀ (x : AV) {y : Value}, VR S ι n w x y → VR S ι' n' w (x.ren τ) y
  | .f x, y, h => by simpa only [AV.ren, VR] using h
  | .agg xs, y, h => by
    simp only [AV.ren, VR] at h ⊢
    obtain ⟨ys, e, h1, h2⟩ := h
    exact ⟨ys, e, renFs_sound hτ xs h1, h2⟩
  | .tup xs, y, h => by
    simp only [AV.ren, VR] at h ⊢
    obtain ⟨ys, e, h1⟩ := h
    exact ⟨ys, e, renFs_sound hτ xs h1⟩
  | .ptr id _, y, h => by simp only [AV.ren, VR] at h ⊢; rw [(hτ id h.1).2]; exact ⟨(hτ id h.1).1, h.2⟩
  | .rp id _ _ _, y, h => by simp only [AV.ren, VR] at h ⊢; rw [(hτ id h.1).2]; exact ⟨(hτ id h.1).1, h.2⟩
  | .sl id _ _ _, y, h => by simp only [AV.ren, VR] at h ⊢; rw [(hτ id h.1).2]; exact ⟨(hτ id h.1).1, h.2⟩
  | .mp id, y, h => by simp only [AV.ren, VR] at h ⊢; rw [(hτ id h.1).2]; exact ⟨(hτ id h.1).1, h.2⟩
  | .it id, y, h => by simp only [AV.ren, VR] at h ⊢; rw [(hτ id h.1).2]; exact ⟨(hτ id h.1).1, h.2⟩
  | .clo q a b, y, h => by
    simp only [AV.ren, VR] at h ⊢
    obtain ⟨fs, cs, e, h1, h2⟩ := h
    exact ⟨fs, cs, e, renFs_sound hτ a h1, renFs_sound hτ b h2⟩
  | .g _, y, h => by simpa only [AV.ren, VR] using h
theorem renFs_sound (hτ : ∀ i, i < n → τ i < n' ∧ ι' (τ i) = ι i) : ∀ (xs : List AV) {ys : List Value}, VRs S ι n w xs ys → VRs S ι' n' w (AV.rens τ xs) ys
  | [], ys, h => by simpa only [AV.rens, VRs] using h
  | x :: xs, ys, h => by
    simp only [AV.rens, VRs] at h ⊢
    obtain ⟨y, ys', e, h1, h2⟩ := h
    exact ⟨y, ys', e, renF_sound hτ x h1, renFs_sound hτ xs h2⟩
end
theorem orenF_sound (hτ : ∀ i, i < n → τ i < n' ∧ ι' (τ i) = ι i) : ∀ (o : AO) {l : Loc}, OR S ι n w l o → OR S ι' n' w l (o.ren τ)
  | .cells T cs, l, h => by
    simp only [AO.ren, OR] at h ⊢
    obtain ⟨b, vs, e, h1, h2, h3⟩ := h
    exact ⟨b, vs, e, h1, renFs_sound hτ cs h2, h3⟩
  | .row T sz xs, l, h => h
  | .map kv, l, h => h
  | .siter s pos, l, h => h
end

/-- what is handed in, as the callee sees it -/
theorem mem_entry {E : Ent} {N : Nat} {σ : St} {ι : Nat → Loc} {S : Nat → Prop} {a : Act} {w : World} (hs : Sim E N σ ι S a w) {τ : List (Nat × Nat)} {n0 : Nat} {h0 : Heap} (hh : subH τ n0 σ.h h0) (ha : apartH τ h0) :
    Mem (entOf w (fun i => ι (rn τ i)) n0 h0 S) h0 n0 (fun i => ι (rn τ i)) S w :=
  { obj := fun id o h => by
      obtain ⟨h1, h2, h3⟩ := subH_spec hh id o h
      exact ⟨h2, oren_sound o (hs.mem.obj _ _ h1).2 h3⟩
    own := fun id o b h hb => by
      have := hs.mem.own _ _ b (subH_spec hh id o h).1 hb
      exact ⟨this.1, this.2.1, .inl ⟨id, o, h, hb⟩⟩
    inj := fun id id' o o' b h h' hb hb' => apartH_spec ha id id' o o' h h' (hs.mem.inj _ _ _ _ b (subH_spec hh id o h).1 (subH_spec hh id' o' h').1 hb hb')
    slt := hs.mem.slt
    ssub := fun b h => .inl h
    ssup := fun b h => h
    keep := fun b hb _ => rfl
    size := Nat.le_refl _
    os := rfl
    tape := rfl
    output := rfl
    names := Nat.le_refl _
    same := fun id _ => rfl }

/-- the caller's memory behind the call -/
theorem sim_after {E : Ent} {N : Nat} {σ : St} {ι : Nat → Loc} {S : Nat → Prop} {a : Act} {w w' : World} (hs : Sim E N σ ι S a w) {τ : List (Nat × Nat)} {n0 : Nat} {h0 : Heap} (hh : subH τ n0 σ.h h0) (hb : belowAll τ σ.n n0)
    {h : Heap} {n : Nat} {ι' : Nat → Loc} {S' : Nat → Prop} (hm : Mem (entOf w (fun i => ι (rn τ i)) n0 h0 S) h n ι' S' w') :
    ∃ ι'', (∀ i, i < n → shift τ n0 σ.n i < σ.n + (n - n0) ∧ ι'' (shift τ n0 σ.n i) = ι' i) ∧
      Sim E N ⟨σ.t, renH (shift τ n0 σ.n) h ++ delAll τ h0 σ.h, σ.n + (n - n0)⟩ ι'' S' a w' := by
  have hn0 : n0 ≤ n := hm.names
  let ι'' : Nat → Loc := fun i => if i < σ.n then ι i else ι' (n0 + (i - σ.n))
  have hι : ∀ i, i < σ.n → ι'' i = ι i := fun i hi => by simp [ι'', hi]
  have hτ : ∀ i, i < n → shift τ n0 σ.n i < σ.n + (n - n0) ∧ ι'' (shift τ n0 σ.n i) = ι' i := by
    intro i hi
    by_cases h0 : i < n0
    · have h1 := belowAll_spec hb i h0
      have e : shift τ n0 σ.n i = rn τ i := by simp [shift, h0]
      rw [e]
      refine ⟨by omega, ?_⟩
      rw [hι _ h1]
      exact (hm.same i h0).symm
    · have e : shift τ n0 σ.n i = σ.n + (i - n0) := by simp [shift, h0]
      rw [e]
      refine ⟨by omega, ?_⟩
      simp only [ι'']
      rw [if_neg (by omega)]
      congr 1
      omega
  refine ⟨ι'', hτ, ?_⟩
  have ownE : ∀ b, (entOf w (fun i => ι (rn τ i)) n0 h0 S).own b → b < w.heap.size ∧ ¬ S b ∧ (E.own b ∨ E.w.heap.size ≤ b) ∧ ∃ i o, lk i h0 = some o ∧ lk (rn τ i) σ.h = some (o.ren (rn τ)) ∧ (ι (rn τ i)).b = some b := by
    rintro b ⟨id, o, hl, hb'⟩
    obtain ⟨h1, h2, h3⟩ := subH_spec hh id o hl
    have := hs.mem.own _ _ b h1 hb'
    exact ⟨this.1, this.2.1, this.2.2, id, o, hl, h1, hb'⟩
  have keepS : ∀ b, S b → w'.heap[b]? = w.heap[b]? := fun b hb' => hm.keep b (hs.mem.slt b hb') (fun ho => (ownE b ho).2.1 hb')
  have ssup : ∀ b, S b → S' b := hm.ssup
  -- an old object that was not handed over
  have old : ∀ id o, lk id (delAll τ h0 σ.h) = some o → lk id σ.h = some o ∧ ∀ b, (ι id).b = some b → ¬ (entOf w (fun i => ι (rn τ i)) n0 h0 S).own b := by
    intro id o hl
    obtain ⟨h1, h2⟩ := lk_delAll τ h0 σ.h id hl
    refine ⟨h1, fun b hb' ho => ?_⟩
    obtain ⟨_, _, _, i, o', h3, h4, h5⟩ := ownE b ho
    exact h2 i o' h3 (hs.mem.inj _ _ _ _ b h1 h4 hb' h5)
  have new : ∀ id o, lk id (renH (shift τ n0 σ.n) h) = some o → ∃ i o0, id = shift τ n0 σ.n i ∧ lk i h = some o0 ∧ o = o0.ren (shift τ n0 σ.n) ∧ i < n ∧ ι'' id = ι' i := by
    intro id o hl
    obtain ⟨i, o0, rfl, h1, rfl⟩ := lk_renH _ _ _ hl
    have hi := (hm.obj i o0 h1).1
    exact ⟨i, o0, rfl, h1, rfl, hi, (hτ i hi).2⟩
  have both : ∀ id o, lk id (renH (shift τ n0 σ.n) h ++ delAll τ h0 σ.h) = some o → lk id (renH (shift τ n0 σ.n) h) = some o ∨ lk id (delAll τ h0 σ.h) = some o := by
    intro id o hl
    rw [lk_append] at hl
    split at hl
    · rename_i x hx
      exact .inl (hx.trans hl)
    · exact .inr hl
  have keepO : ∀ id o b, lk id (delAll τ h0 σ.h) = some o → (ι id).b = some b → w'.heap[b]? = w.heap[b]? := fun id o b hl hb' =>
    hm.keep b (hs.mem.own id o b (old id o hl).1 hb').1 ((old id o hl).2 b hb')
  refine ⟨?_, hs.tsz, fun t v hl => (hs.tm t v hl).mono ssup keepS (by show σ.n ≤ σ.n + (n - n0); omega) hι, hs.def0⟩
  exact
    { obj := fun id o hl => by
        rcases both id o hl with hl | hl
        · obtain ⟨i, o0, rfl, h1, rfl, hi, hii⟩ := new id o hl
          refine ⟨(hτ i hi).1, ?_⟩
          rw [hii]
          exact orenF_sound hτ o0 (hm.obj i o0 h1).2
        · have h1 := (old id o hl).1
          have h2 := hs.mem.obj id o h1
          refine ⟨by have := h2.1; show id < σ.n + (n - n0); omega, ?_⟩
          rw [hι id h2.1]
          exact h2.2.mono ssup keepS (by show σ.n ≤ σ.n + (n - n0); omega) hι (fun b hb' => keepO id o b hl hb')
      own := fun id o b hl hb' => by
        rcases both id o hl with hl | hl
        · obtain ⟨i, o0, rfl, h1, rfl, hi, hii⟩ := new id o hl
          rw [hii] at hb'
          have := hm.own i o0 b h1 hb'
          refine ⟨this.1, this.2.1, ?_⟩
          rcases this.2.2 with h | h
          · exact (ownE b h).2.2.1
          · exact .inr (Nat.le_trans hs.mem.size h)
        · have h1 := (old id o hl).1
          have h2 := hs.mem.obj id o h1
          rw [hι id h2.1] at hb'
          have h3 := hs.mem.own id o b h1 hb'
          refine ⟨Nat.lt_of_lt_of_le h3.1 hm.size, fun hS => ?_, h3.2.2⟩
          rcases hm.ssub b hS with h | h | h
          · exact h3.2.1 h
          · exact (old id o hl).2 b hb' h
          · exact absurd h3.1 (Nat.not_lt.2 h)
      inj := fun id id' o o' b hl hl' hb1 hb2 => by
        rcases both id o hl with hl | hl <;> rcases both id' o' hl' with hl' | hl'
        · obtain ⟨i, o0, rfl, h1, rfl, hi, hii⟩ := new id o hl
          obtain ⟨i', o0', rfl, h1', rfl, hi', hii'⟩ := new id' o' hl'
          rw [hii] at hb1; rw [hii'] at hb2
          rw [hm.inj i i' _ _ b h1 h1' hb1 hb2]
        · obtain ⟨i, o0, rfl, h1, rfl, hi, hii⟩ := new id o hl
          rw [hii] at hb1
          have h2 := hs.mem.obj id' o' (old id' o' hl').1
          rw [hι id' h2.1] at hb2
          rcases (hm.own i o0 b h1 hb1).2.2 with h | h
          · exact absurd h ((old id' o' hl').2 b hb2)
          · exact absurd (hs.mem.own id' o' b (old id' o' hl').1 hb2).1 (Nat.not_lt.2 h)
        · obtain ⟨i, o0, rfl, h1, rfl, hi, hii⟩ := new id' o' hl'
          rw [hii] at hb2
          have h2 := hs.mem.obj id o (old id o hl).1
          rw [hι id h2.1] at hb1
          rcases (hm.own i o0 b h1 hb2).2.2 with h | h
          · exact absurd h ((old id o hl).2 b hb1)
          · exact absurd (hs.mem.own id o b (old id o hl).1 hb1).1 (Nat.not_lt.2 h)
        · have h2 := hs.mem.obj id o (old id o hl).1
          have h2' := hs.mem.obj id' o' (old id' o' hl').1
          rw [hι id h2.1] at hb1
          rw [hι id' h2'.1] at hb2
          exact hs.mem.inj id id' o o' b (old id o hl).1 (old id' o' hl').1 hb1 hb2
      slt := hm.slt
      ssub := fun b hb' => by
        rcases hm.ssub b hb' with h | h | h
        · exact hs.mem.ssub b h
        · exact .inr (ownE b h).2.2.1
        · exact .inr (.inr (Nat.le_trans hs.mem.size h))
      ssup := fun b hb' => ssup b (hs.mem.ssup b hb')
      keep := fun b hb' hno => by
        refine (hm.keep b (Nat.lt_of_lt_of_le hb' hs.mem.size) fun ho => ?_).trans (hs.mem.keep b hb' hno)
        rcases (ownE b ho).2.2.1 with h | h
        · exact hno h
        · omega
      size := Nat.le_trans hs.mem.size hm.size
      os := hm.os.trans hs.mem.os
      tape := hm.tape.trans hs.mem.tape
      output := hm.output.trans hs.mem.output
      names := by have := hs.mem.names; show E.n ≤ σ.n + (n - n0); omega
      same := fun id hid => by rw [hι id (Nat.lt_of_lt_of_le hid hs.mem.names)]; exact hs.mem.same id hid }

section
variable {C : Cx} {n : Nat} {all os : List Oper} {o : Oper} {k : List Item} {σ : St} {need : Prop} {f : FuncId} {args : List AV}

/-- a call that is handed objects -/
theorem ACall.own (τ : List (Nat × Nat)) {n0 : Nat} {h0 : Heap} {as : List AV} {R : AV → St → Prop} (hf : enters C.P f = true) (hgc : GC C.P f n0 h0 as R) (ha : args = AV.rens (rn τ) as) (hau : AV.unds n0 as) (hh : subH τ n0 σ.h h0) (hap : apartH τ h0) (hb : belowAll τ σ.n n0) (hn : need)
    (hk : ∀ av h m, R av ⟨[], h, m⟩ → AWn C n all os k (St.put ⟨σ.t, renH (shift τ n0 σ.n) h ++ delAll τ h0 σ.h, σ.n + (m - n0)⟩ o.dst (av.ren (shift τ n0 σ.n)))) :
    ACall C n all o os k σ true need f args := by
  intro hg hop ok hsuf hok hki ι S a w hs
  obtain ⟨cl, x, ho, hcal, hcall⟩ := call_val hop
  have hd := okOps_mem hok (hsuf.subset (List.mem_cons_self ..))
  have hsuf' : os <:+ all := (List.suffix_cons o os).trans hsuf
  refine at_step (σ := σ) ?_ ?_ hs hg hsuf hok
  · intro c' hc' _
    obtain ⟨vals, hrun, hv⟩ := s_call hs ho hcal hcall hn hf
    unfold Oper.wp
    rw [hrun, Oper.upon_enter]
    rw [ha] at hv
    refine (hgc S (fun i => ι (rn τ i)) w vals (mem_entry hs hh hap) (rens_sound as hv hau)).mono ?_
    rintro e w' ⟨v, rfl, av, h, m, ι', S', hR, hm, hvr⟩
    obtain ⟨ι'', hτ, hs'⟩ := sim_after hs hh hb hm
    have hput := hs'.put hd (renF_sound hτ av hvr)
    exact AWn_sound _ _ _ _ _ (hk av h m hR) ok hsuf' hok hki _ _ _ _ hput
  · intro c' hc' hct
    rw [hg] at hc'; simp only [Option.some.injEq] at hc'
    rw [← hc'] at hct; cases hct
end
end Go.Fw
