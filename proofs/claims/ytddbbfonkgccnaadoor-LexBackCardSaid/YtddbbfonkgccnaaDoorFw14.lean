/-
  Fw14: what one state says less than another; loops.
-/
import Derived.Test.YtddbbfonkgccnaaDoorFw13
set_option linter.unusedVariables false
namespace Go.Fw
open Go

/-- whatever stands as the first says stands as the second says -/
def Imp (E : Ent) (σ σ' : St) : Prop := ∀ N ι S a w, Sim E N σ ι S a w → ∃ ι' S', Sim E N σ' ι' S' a w
theorem Imp.refl (E : Ent) (σ : St) : Imp E σ σ := fun _ ι S _ _ h => ⟨ι, S, h⟩
theorem Imp.trans {E : Ent} {σ σ' σ'' : St} (h : Imp E σ σ') (h' : Imp E σ' σ'') : Imp E σ σ'' := fun N ι S a w hs =>
  let ⟨ι', S', hs'⟩ := h N ι S a w hs
  h' N ι' S' a w hs'
theorem AW.imp {C : Cx} {all os : List Oper} {k : List Item} {σ σ' : St} (h : Imp C.E σ σ') (h' : AW C all os k σ') : AW C all os k σ := fun ok hsuf hok hki ι S a w hs =>
  let ⟨ι', S', hs'⟩ := h C.N ι S a w hs
  h' ok hsuf hok hki ι' S' a w hs'
theorem AL.imp {C : Cx} {c : Code} {k : List Item} {σ σ' : St} (h : Imp C.E σ σ') (h' : AL C c k σ') : AL C c k σ := AW.imp h h'

def rn (τ : List (Nat × Nat)) (i : Nat) : Nat := match lk i τ with | some j => j | none => i
mutual
def AV.ren (τ : Nat → Nat) : AV → AV
  | .f x => .f x
  | .agg xs => .agg (AV.rens τ xs)
  | .tup xs => .tup (AV.rens τ xs)
  | .ptr id off => .ptr (τ id) off
  | .rp id sz i off => .rp (τ id) sz i off
  | .sl id sz off len => .sl (τ id) sz off len
  | .mp id => .mp (τ id)
  | .it id => .it (τ id)
  | .clo q a b => .clo q (AV.rens τ a) (AV.rens τ b)
  | .g x => .g x
def AV.rens (τ : Nat → Nat) : List AV → List AV
  | [] => []
  | x :: xs => AV.ren τ x :: AV.rens τ xs
end
mutual
def AV.und (m : Nat) : AV → Prop
  | .f _ => True
  | .agg xs => AV.unds m xs
  | .tup xs => AV.unds m xs
  | .ptr id _ => id < m
  | .rp id _ _ _ => id < m
  | .sl id _ _ _ => id < m
  | .mp id => id < m
  | .it id => id < m
  | .clo _ a b => AV.unds m a ∧ AV.unds m b
  | .g _ => True
def AV.unds (m : Nat) : List AV → Prop
  | [] => True
  | x :: xs => AV.und m x ∧ AV.unds m xs
end
def AO.ren (τ : Nat → Nat) : AO → AO
  | .cells T cs => .cells T (AV.rens τ cs)
  | o => o
def AO.und (m : Nat) : AO → Prop
  | .cells _ cs => AV.unds m cs
  | _ => True

section
variable {S : Nat → Prop} {ι : Nat → Loc} {n m : Nat} {w : World} {τ : Nat → Nat}
mutual
theorem ren_sound : ∀ (x : AV) {y : Value}, VR S ι n w (x.ren τ) y → x.und m → VR S (fun i => ι (τ i)) m w x y
  | .f x, y, h, _ => by simpa only [AV.ren, VR] using h
  | .agg xs, y, h, hb => by
    simp only [AV.ren, VR, AV.und] at h hb ⊢
    obtain ⟨ys, e, h1, h2⟩ := h
    exact ⟨ys, e, rens_sound xs h1 hb, h2⟩
  | .tup xs, y, h, hb => by
    simp only [AV.ren, VR, AV.und] at h hb ⊢
    obtain ⟨ys, e, h1⟩ := h
    exact ⟨ys, e, rens_sound xs h1 hb⟩
  | .ptr _ _, y, h, hb => by simp only [AV.ren, VR, AV.und] at h hb ⊢; exact ⟨hb, h.2⟩
  | .rp _ _ _ _, y, h, hb => by simp only [AV.ren, VR, AV.und] at h hb ⊢; exact ⟨hb, h.2⟩
  | .sl _ _ _ _, y, h, hb => by simp only [AV.ren, VR, AV.und] at h hb ⊢; exact ⟨hb, h.2⟩
  | .mp _, y, h, hb => by simp only [AV.ren, VR, AV.und] at h hb ⊢; exact ⟨hb, h.2⟩
  | .it _, y, h, hb => by simp only [AV.ren, VR, AV.und] at h hb ⊢; exact ⟨hb, h.2⟩
  | .clo q a b, y, h, hb => by
    simp only [AV.ren, VR, AV.und] at h hb ⊢
    obtain ⟨fs, cs, e, h1, h2⟩ := h
    exact ⟨fs, cs, e, rens_sound a h1 hb.1, rens_sound b h2 hb.2⟩
  | .g _, y, h, _ => by simpa only [AV.ren, VR] using h
theorem rens_sound : ∀ (xs : List AV) {ys : List Value}, VRs S ι n w (AV.rens τ xs) ys → AV.unds m xs → VRs S (fun i => ι (τ i)) m w xs ys
  | [], ys, h, _ => by simpa only [AV.rens, VRs] using h
  | x :: xs, ys, h, hb => by
    simp only [AV.rens, VRs, AV.unds] at h hb ⊢
    obtain ⟨y, ys', e, h1, h2⟩ := h
    exact ⟨y, ys', e, ren_sound x h1 hb.1, rens_sound xs h2 hb.2⟩
end
theorem oren_sound : ∀ (o : AO) {l : Loc}, OR S ι n w l (o.ren τ) → o.und m → OR S (fun i => ι (τ i)) m w l o
  | .cells T cs, l, h, hb => by
    simp only [AO.ren, OR, AO.und] at h hb ⊢
    obtain ⟨b, vs, e, h1, h2, h3⟩ := h
    exact ⟨b, vs, e, h1, rens_sound cs h2 hb, h3⟩
  | .row T sz xs, l, h, hb => h
  | .map kv, l, h, hb => h
  | .siter s pos, l, h, hb => h
end

def subT (τ : List (Nat × Nat)) (m : Nat) (t : List (Nat × AV)) : List (Nat × AV) → Prop
  | [] => True
  | (i, v) :: l => lk i t = some (v.ren (rn τ)) ∧ v.und m ∧ subT τ m t l
def subH (τ : List (Nat × Nat)) (m : Nat) (h : Heap) : Heap → Prop
  | [] => True
  | (i, o) :: l => lk (rn τ i) h = some (o.ren (rn τ)) ∧ i < m ∧ o.und m ∧ subH τ m h l
def apart1 (τ : List (Nat × Nat)) (j : Nat) : Heap → Prop
  | [] => True
  | (i, _) :: l => j ≠ rn τ i ∧ apart1 τ j l
def apartH (τ : List (Nat × Nat)) : Heap → Prop
  | [] => True
  | (i, _) :: l => apart1 τ (rn τ i) l ∧ apartH τ l

theorem subT_spec {τ : List (Nat × Nat)} {m : Nat} {t : List (Nat × AV)} : ∀ {l : List (Nat × AV)}, subT τ m t l → ∀ i v, lk i l = some v → lk i t = some (v.ren (rn τ)) ∧ v.und m
  | [], _, i, v, h => by simp [lk] at h
  | (j, u) :: l, hs, i, v, h => by
    simp only [subT] at hs
    rw [lk_cons] at h
    split at h
    · rename_i e; subst e; simp only [Option.some.injEq] at h; subst h; exact ⟨hs.1, hs.2.1⟩
    · exact subT_spec hs.2.2 i v h
theorem subH_spec {τ : List (Nat × Nat)} {m : Nat} {h0 : Heap} : ∀ {l : Heap}, subH τ m h0 l → ∀ i o, lk i l = some o → lk (rn τ i) h0 = some (o.ren (rn τ)) ∧ i < m ∧ o.und m
  | [], _, i, v, h => by simp [lk] at h
  | (j, u) :: l, hs, i, v, h => by
    simp only [subH] at hs
    rw [lk_cons] at h
    split at h
    · rename_i e; subst e; simp only [Option.some.injEq] at h; subst h; exact ⟨hs.1, hs.2.1, hs.2.2.1⟩
    · exact subH_spec hs.2.2.2 i v h
theorem apart1_spec {τ : List (Nat × Nat)} {j : Nat} : ∀ {l : Heap}, apart1 τ j l → ∀ i o, lk i l = some o → j ≠ rn τ i
  | [], _, i, o, h => by simp [lk] at h
  | (k, u) :: l, hs, i, o, h => by
    simp only [apart1] at hs
    rw [lk_cons] at h
    split at h
    · rename_i e; subst e; exact hs.1
    · exact apart1_spec hs.2 i o h
theorem apartH_spec {τ : List (Nat × Nat)} : ∀ {l : Heap}, apartH τ l → ∀ i i' o o', lk i l = some o → lk i' l = some o' → rn τ i = rn τ i' → i = i'
  | [], _, i, _, o, _, h, _, _ => by simp [lk] at h
  | (k, u) :: l, hs, i, i', o, o', h, h', e => by
    simp only [apartH] at hs
    rw [lk_cons] at h h'
    split at h <;> split at h'
    · rename_i e1 e2; rw [e1, e2]
    · rename_i e1 e2; subst e1; exact absurd e (apart1_spec hs.1 i' o' h')
    · rename_i e1 e2; subst e2; exact absurd e.symm (apart1_spec hs.1 i o h)
    · exact apartH_spec hs.2 i i' o o' h h' e

/-- less is said, and names are turned -/
theorem Imp.sub {E : Ent} {σ σ' : St} (τ : List (Nat × Nat)) (hfix : ∀ i, i < E.n → rn τ i = i) (hn : E.n ≤ σ'.n) (ht : subT τ σ'.n σ.t σ'.t) (hh : subH τ σ'.n σ.h σ'.h) (ha : apartH τ σ'.h) : Imp E σ σ' := by
  intro N ι S a w hs
  refine ⟨fun i => ι (rn τ i), S, ?_, hs.tsz, ?_, hs.def0⟩
  · exact
    { obj := fun id o h => by
        obtain ⟨h1, h2, h3⟩ := subH_spec hh id o h
        exact ⟨h2, oren_sound o (hs.mem.obj _ _ h1).2 h3⟩
      own := fun id o b h hb => hs.mem.own _ _ b (subH_spec hh id o h).1 hb
      inj := fun id id' o o' b h h' hb hb' => apartH_spec ha id id' o o' h h' (hs.mem.inj _ _ _ _ b (subH_spec hh id o h).1 (subH_spec hh id' o' h').1 hb hb')
      slt := hs.mem.slt
      ssub := hs.mem.ssub
      ssup := hs.mem.ssup
      keep := hs.mem.keep
      size := hs.mem.size
      os := hs.mem.os
      tape := hs.mem.tape
      output := hs.mem.output
      names := hn
      same := fun id hid => by simp only [hfix id hid]; exact hs.mem.same id hid }
  · intro t v h
    obtain ⟨h1, h2⟩ := subT_spec ht t v h
    exact ren_sound v (hs.tm t _ h1) h2

/-- a nil slice in a slot may be told as an owned row of none -/
theorem Imp.adopt {E : Ent} {σ : St} (t : Nat) (T : TypeId) (sz : Nat) (h : lk t σ.t = some (.f (.v (.slice none 0 0)))) : Imp E σ ⟨(t, .sl σ.n sz 0 0) :: σ.t, (σ.n, .row T sz []) :: σ.h, σ.n + 1⟩ := by
  intro N ι S a w hs
  have hs' := hs.name (l := ⟨none, 0⟩) (o := .row T sz []) (by simp) (.inl ⟨rfl, rfl, rfl⟩)
  refine ⟨_, S, hs'.mem, hs.tsz, ?_, hs.def0⟩
  intro t' v' hl
  rw [lk_cons] at hl
  split at hl
  · rename_i e; subst e
    simp only [Option.some.injEq] at hl; subst hl
    have e1 := vr_v (hs.tm t' _ h)
    simp only [VR, ext_new]
    exact ⟨Nat.lt_succ_self _, .inl ⟨trivial, trivial, trivial, trivial, e1⟩⟩
  · exact hs'.tm t' v' hl

/-- a nil slice in a cell of an object may be told so too -/
theorem Imp.adoptCell {E : Ent} {σ : St} (id i : Nat) (T U : TypeId) (sz : Nat) {cs : List AV} (h : lk id σ.h = some (.cells U cs)) (hc : cs[i]? = some (.f (.v (.slice none 0 0)))) :
    Imp E σ ⟨σ.t, hset id (.cells U (cs.set i (.sl σ.n sz 0 0))) ((σ.n, .row T sz []) :: σ.h), σ.n + 1⟩ := by
  intro N ι S a w hs
  have hs' := hs.name (l := ⟨none, 0⟩) (o := .row T sz []) (by simp) (.inl ⟨rfl, rfl, rfl⟩)
  obtain ⟨hid, b, vs, hb, hh, hv, hone⟩ := hs.mem.obj id _ h
  have hl : lk id ((σ.n, AO.row T sz []) :: σ.h) = some (.cells U cs) := by rw [lk_cons, if_neg (Nat.ne_of_lt hid)]; exact h
  obtain ⟨_, b', vs', hb', hh', hv', hone'⟩ := hs'.mem.obj id _ hl
  have hself : Only w w b' := ⟨fun _ _ => rfl, rfl, rfl, rfl, rfl⟩
  refine ⟨_, S, hs'.upd hl hb' hself ⟨b', vs', hb', hh', ?_, hone'⟩⟩
  obtain ⟨y, hy, hvy⟩ := hv'.get hc
  have e1 := vr_v hvy
  have hset := hv'.set (i := i) (x := .sl σ.n sz 0 0) (y := y) (by
    simp only [VR, ext_new]
    exact ⟨Nat.lt_succ_self _, .inl ⟨trivial, trivial, trivial, trivial, e1⟩⟩)
  have : vs'.toList.set i y = vs'.toList := by
    apply List.ext_getElem?
    intro j
    rw [List.getElem?_set]
    split
    · rename_i e; subst e
      split
      · exact hy.symm
      · rename_i hlt
        rw [List.getElem?_eq_none (by omega)]
    · rfl
  rwa [this] at hset

mutual
/-- an owned row's views, told by what they hold -/
def frzV (id sz : Nat) (xs : List FV) : AV → AV
  | .sl i s off len => match i == id && s == sz && decide (off + len ≤ xs.length) with
    | true => .f (.sl sz ((xs.drop off).take len))
    | false => .sl i s off len
  | .agg ys => .agg (frzVs id sz xs ys)
  | .tup ys => .tup (frzVs id sz xs ys)
  | .clo q a b => .clo q (frzVs id sz xs a) (frzVs id sz xs b)
  | v => v
def frzVs (id sz : Nat) (xs : List FV) : List AV → List AV
  | [] => []
  | y :: ys => frzV id sz xs y :: frzVs id sz xs ys
end
def frzO (id sz : Nat) (xs : List FV) : AO → AO
  | .cells T cs => .cells T (frzVs id sz xs cs)
  | o => o
def frzT (id sz : Nat) (xs : List FV) : List (Nat × AV) → List (Nat × AV)
  | [] => []
  | (i, v) :: l => (i, frzV id sz xs v) :: frzT id sz xs l
def frzH (id sz : Nat) (xs : List FV) : Heap → Heap
  | [] => []
  | (i, o) :: l => match i == id with
    | true => frzH id sz xs l
    | false => (i, frzO id sz xs o) :: frzH id sz xs l

theorem lk_frzT (id sz : Nat) (xs : List FV) : ∀ (l : List (Nat × AV)) (t : Nat), lk t (frzT id sz xs l) = (lk t l).map (frzV id sz xs)
  | [], t => rfl
  | (i, v) :: l, t => by
    simp only [frzT, lk_cons]
    split
    · rfl
    · exact lk_frzT id sz xs l t
theorem lk_frzH (id sz : Nat) (xs : List FV) : ∀ (l : Heap) (t : Nat), lk t (frzH id sz xs l) = if t = id then none else (lk t l).map (frzO id sz xs)
  | [], t => by simp [frzH, lk]
  | (i, v) :: l, t => by
    simp only [frzH]
    split
    · rename_i e
      simp only [beq_iff_eq] at e; subst e
      rw [lk_frzH i sz xs l t, lk_cons]
      split <;> rfl
    · rename_i e
      simp only [beq_eq_false_iff_ne] at e
      simp only [lk_cons]
      rw [lk_frzH id sz xs l t]
      by_cases h1 : t = i
      · subst h1
        simp only [if_true, if_neg e, Option.map_some]
      · simp only [if_neg h1]

section
variable {S S' : Nat → Prop} {ι : Nat → Loc} {n : Nat} {w : World} {id sz : Nat} {xs : List FV}
mutual
theorem frzV_sound (hS : ∀ b, S b → S' b) (hrow : ∀ off len y, off + len ≤ xs.length → VR S ι n w (.sl id sz off len) y → FR S' w (.sl sz ((xs.drop off).take len)) y) : ∀ (x : AV) {y : Value}, VR S ι n w x y → VR S' ι n w (frzV id sz xs x) y
  | .sl i s off len, y, h => by
    simp only [frzV]
    split
    · rename_i e
      simp only [Bool.and_eq_true, beq_iff_eq, decide_eq_true_eq] at e
      obtain ⟨⟨rfl, rfl⟩, hle⟩ := e
      simp only [VR] at hrow ⊢
      exact hrow off len y hle (by simpa only [VR] using h)
    · exact h.mono hS (fun _ _ => rfl) (Nat.le_refl _) (fun _ _ => rfl)
  | .agg ys, y, h => by
    simp only [frzV, VR] at h ⊢
    obtain ⟨vs, e, h1, h2⟩ := h
    exact ⟨vs, e, frzVs_sound hS hrow ys h1, h2⟩
  | .tup ys, y, h => by
    simp only [frzV, VR] at h ⊢
    obtain ⟨vs, e, h1⟩ := h
    exact ⟨vs, e, frzVs_sound hS hrow ys h1⟩
  | .clo q a b, y, h => by
    simp only [frzV, VR] at h ⊢
    obtain ⟨fs, cs, e, h1, h2⟩ := h
    exact ⟨fs, cs, e, frzVs_sound hS hrow a h1, frzVs_sound hS hrow b h2⟩
  | .f _, y, h => by simp only [frzV]; exact h.mono hS (fun _ _ => rfl) (Nat.le_refl _) (fun _ _ => rfl)
  | .ptr _ _, y, h => by simp only [frzV]; exact h.mono hS (fun _ _ => rfl) (Nat.le_refl _) (fun _ _ => rfl)
  | .rp _ _ _ _, y, h => by simp only [frzV]; exact h.mono hS (fun _ _ => rfl) (Nat.le_refl _) (fun _ _ => rfl)
  | .mp _, y, h => by simp only [frzV]; exact h.mono hS (fun _ _ => rfl) (Nat.le_refl _) (fun _ _ => rfl)
  | .it _, y, h => by simp only [frzV]; exact h.mono hS (fun _ _ => rfl) (Nat.le_refl _) (fun _ _ => rfl)
  | .g _, y, h => by simp only [frzV]; exact h.mono hS (fun _ _ => rfl) (Nat.le_refl _) (fun _ _ => rfl)
theorem frzVs_sound (hS : ∀ b, S b → S' b) (hrow : ∀ off len y, off + len ≤ xs.length → VR S ι n w (.sl id sz off len) y → FR S' w (.sl sz ((xs.drop off).take len)) y) : ∀ (vs : List AV) {ys : List Value}, VRs S ι n w vs ys → VRs S' ι n w (frzVs id sz xs vs) ys
  | [], ys, h => by simpa only [frzVs, VRs] using h
  | x :: vs, ys, h => by
    simp only [frzVs, VRs] at h ⊢
    obtain ⟨y, ys', e, h1, h2⟩ := h
    exact ⟨y, ys', e, frzV_sound hS hrow x h1, frzVs_sound hS hrow vs h2⟩
end
end

/-- an owned row is frozen -/
theorem Imp.frz {E : Ent} {σ : St} (id : Nat) {T : TypeId} {sz : Nat} {xs : List FV} (h : lk id σ.h = some (.row T sz xs)) : Imp E σ ⟨frzT id sz xs σ.t, frzH id sz xs σ.h, σ.n⟩ := by
  intro N ι S a w hs
  obtain ⟨hid, ho⟩ := hs.mem.obj id _ h
  let S' : Nat → Prop := fun b => S b ∨ (ι id).b = some b
  have hrow : ∀ off len y, off + len ≤ xs.length → VR S ι σ.n w (.sl id sz off len) y → FR S' w (.sl sz ((xs.drop off).take len)) y := by
    intro off len y hle hv
    have hs0 : Sim E N ⟨[], σ.h, σ.n⟩ ι S a w := ⟨hs.mem, hs.tsz, fun t v h => by simp [lk] at h, hs.def0⟩
    simp only [VR] at hv
    simp only [FR]
    obtain ⟨_, ⟨hb, _, rfl, _, e⟩ | ⟨b, o, hb, hcap, hoo, _, e⟩⟩ := hv
    · exact .inl ⟨by simp, _, _, e⟩
    · rcases ho with ⟨hb', _⟩ | ⟨b', vs, hb', hh, hlc, hcm, hvs, hr⟩
      · rw [hb] at hb'; cases hb'
      · rw [hb] at hb'; simp only [Option.some.injEq] at hb'; subst hb'
        by_cases h0 : len = 0
        · subst h0; exact .inl ⟨by simp, _, _, e⟩
        · have hlen : ((xs.drop off).take len).length = len := by simp; omega
          have := hoo (by omega); subst this
          have hr' := ((hr.drop off).take len).mono (S' := S') (w' := w) (fun _ h => .inl h) (fun _ _ => rfl)
          exact .inr ⟨b, off * sz, _, vs, T, _, by rw [hlen]; exact e, .inr hb, hh, hr', by rw [hlen]; omega⟩
  have hS : ∀ b, S b → S' b := fun b h => .inl h
  have hmem := (hs.mem.del id).more (S' := S') hS (by
    rintro b (hb | hb)
    · exact .inl hb
    · refine .inr ⟨(hs.mem.own id _ b h hb).1, (hs.mem.own id _ b h hb).2.2, fun id' o' hl' hb' => ?_⟩
      rw [lk_hdel] at hl'
      split at hl'
      · cases hl'
      · rename_i hne
        exact hne (hs.mem.inj id' id o' _ b hl' h hb' hb))
  have back : ∀ i o, lk i (frzH id sz xs σ.h) = some o → ∃ o0, lk i (hdel id σ.h) = some o0 ∧ lk i σ.h = some o0 ∧ o = frzO id sz xs o0 := by
    intro i o hl
    rw [lk_frzH] at hl
    split at hl
    · cases hl
    · rename_i hne
      cases ho' : lk i σ.h with
      | none => rw [ho'] at hl; cases hl
      | some o0 =>
        rw [ho'] at hl
        simp only [Option.map_some, Option.some.injEq] at hl
        exact ⟨o0, by rw [lk_hdel, if_neg hne]; exact ho', rfl, hl.symm⟩
  refine ⟨ι, S', ?_, hs.tsz, ?_, hs.def0⟩
  · exact
    { obj := fun i o hl => by
        obtain ⟨o0, h1, h2, rfl⟩ := back i o hl
        refine ⟨(hmem.obj i o0 h1).1, ?_⟩
        cases o0 with
        | cells U cs =>
          obtain ⟨_, b, vs, hb, hh, hv, hone⟩ := hs.mem.obj i _ h2
          exact ⟨b, vs, hb, hh, frzVs_sound hS hrow cs hv, hone⟩
        | row => exact (hmem.obj i _ h1).2
        | map => exact (hmem.obj i _ h1).2
        | siter => exact (hmem.obj i _ h1).2
      own := fun i o b hl hb => by
        obtain ⟨o0, h1, _⟩ := back i o hl
        exact hmem.own i o0 b h1 hb
      inj := fun i i' o o' b hl hl' hb hb' => by
        obtain ⟨o0, h1, _⟩ := back i o hl
        obtain ⟨o1, h1', _⟩ := back i' o' hl'
        exact hmem.inj i i' _ _ b h1 h1' hb hb'
      slt := hmem.slt
      ssub := hmem.ssub
      ssup := hmem.ssup
      keep := hmem.keep
      size := hmem.size
      os := hmem.os
      tape := hmem.tape
      output := hmem.output
      names := hmem.names
      same := hmem.same }
  · intro t v hl
    rw [lk_frzT] at hl
    cases hv : lk t σ.t with
    | none => rw [hv] at hl; cases hl
    | some v0 =>
      rw [hv] at hl
      simp only [Option.map_some, Option.some.injEq] at hl
      subst hl
      exact frzV_sound hS hrow v0 (hs.tm t v0 hv)

/-- a loop, by what it holds on to and what goes down -/
theorem AL.ind {C : Cx} {c : Code} {k : List Item} {σ0 : St} {X : Type} (n : Nat) (I : X → Prop) (μ : X → Nat) (st : X → St) (x0 : X) (h0 : I x0) (himp : Imp C.E σ0 (st x0))
    (hstep : ∀ x, I x → (∀ y σ', I y → μ y < μ x → Imp C.E σ' (st y) → AL C c k σ') → AWn C n [] [] (.code c :: .inLoop c :: k) (st x)) : AL C c k σ0 := by
  have key : ∀ m x, μ x = m → I x → AL C c k (st x) := by
    intro m
    induction m using Nat.strongRecOn with
    | _ m ih =>
      intro x hm hI
      exact AWn_sound n _ _ _ _ (hstep x hI fun y σ' hy hlt hi => .imp hi (ih (μ y) (hm ▸ hlt) y rfl hy))
  exact .imp himp (key _ x0 rfl h0)

theorem ACall.imp {C : Cx} {n : Nat} {all os : List Oper} {o : Oper} {k : List Item} {σ σ' : St} {c : Bool} {need : Prop} {f : FuncId} {args : List AV} (h : Imp C.E σ σ') (h' : AWn C (n + 1) all (o :: os) k σ') : ACall C n all o os k σ c need f args :=
  fun _ _ => .imp h (AWn_sound _ _ _ _ _ h')
end Go.Fw
