/-
  Fw17: small helps for walks.
-/
import Derived.Test.YtddbbfonkgccnaaDoorFw16
set_option linter.unusedVariables false
namespace Go.Fw
open Go

theorem BR_split (b : Bool) (x y : Prop) : BR b x y = ((b = true → x) ∧ (b = false → y)) := by cases b <;> simp [BR]

theorem mkg_false (v : AV) : mkg false v = .g v := rfl

def fixAll (τ : List (Nat × Nat)) : Nat → Prop
  | 0 => True
  | n + 1 => rn τ n = n ∧ fixAll τ n
theorem fixAll_spec {τ : List (Nat × Nat)} : ∀ {n : Nat}, fixAll τ n → ∀ i, i < n → rn τ i = i
  | n + 1, h, i, hi => by
    simp only [fixAll] at h
    by_cases e : i = n
    · subst e; exact h.1
    · exact fixAll_spec h.2 i (by omega)
def subAll (τ : List (Nat × Nat)) (n0 : Nat) (σ σ' : St) : Prop := fixAll τ n0 ∧ n0 ≤ σ'.n ∧ subT τ σ'.n σ.t σ'.t ∧ subH τ σ'.n σ.h σ'.h ∧ apartH τ σ'.h
theorem Imp.of {E : Ent} {n0 : Nat} {σ σ' : St} (τ : List (Nat × Nat)) (hE : E.n = n0) (h : subAll τ n0 σ σ') : Imp E σ σ' := by
  subst hE
  exact Imp.sub τ (fun i hi => fixAll_spec h.1 i hi) h.2.1 h.2.2.1 h.2.2.2.1 h.2.2.2.2

section
variable {C : Cx} {n : Nat} {all os : List Oper} {o : Oper} {k : List Item} {σ : St} {need : Prop} {f : FuncId} {args : List AV}
/-- a call whose guard does not hold -/
theorem ACall.no (v : AV) (hk : AWn C n all os k (σ.put o.dst (.g v))) : ACall C n all o os k σ false need f args := by
  intro hg hop ok hsuf hok hki ι S a w hs
  have hd := okOps_mem hok (hsuf.subset (List.mem_cons_self ..))
  have hsuf' : os <:+ all := (List.suffix_cons o os).trans hsuf
  refine at_step (σ := σ) ?_ ?_ hs hg hsuf hok
  · intro c' hc' hct
    rw [hg] at hc'; simp only [Option.some.injEq] at hc'
    rw [← hc'] at hct; cases hct
  · intro c' hc' hct
    exact AWn_sound _ _ _ _ _ hk ok hsuf' hok hki ι S _ w (put_false hs hd v)
end

theorem getD_int {k : IntKind} (l : List Int) (i : Nat) (d : Int) : (l.map fun n => AV.f (.v (.int k n))).getD i (.f (.v (.int k d))) = .f (.v (.int k (l.getD i d))) := by
  simp [List.getD]
theorem getD_fmap (l : List FV) (i : Nat) (d : FV) : (l.map AV.f).getD i (.f d) = .f (l.getD i d) := by
  simp [List.getD]
theorem dec_ascii (s : List UInt8) (pos : Nat) (h : pos < s.length) (ha : (s.getD pos 0).toNat < 128) : dec s pos = ((s.getD pos 0).toNat, 1) := by
  have hsz : pos < (⟨⟨s⟩⟩ : ByteArray).size := h
  have e : (⟨⟨s⟩⟩ : ByteArray)[pos]'hsz = s.getD pos 0 := by
    rw [List.getD, List.getElem?_eq_getElem h]; rfl
  have := decode_ascii ⟨⟨s⟩⟩ pos hsz (by rw [e]; exact ha)
  rw [dec, this, e]

def tmpsOf : List Operand → List Nat
  | [] => []
  | .tmp t :: l => t :: tmpsOf l
  | .const _ :: l => tmpsOf l
  | .global _ :: l => tmpsOf l
  | .func _ :: l => tmpsOf l
def guardT (L : List Oper) : Option (Nat × Bool) → List Nat
  | none => []
  | some (g, _) => match (L[g]?).bind (·.dst) with
    | some d => [d]
    | none => []
def lks (L : List Oper) (o : Oper) : List Nat := tmpsOf o.op.operands.toList ++ guardT L o.guard
theorem tmpsOf_eq : ∀ l : List Operand, l.filterMap (fun | .tmp t => some t | _ => none) = tmpsOf l
  | [] => rfl
  | .tmp t :: l => by simp [tmpsOf, tmpsOf_eq l]
  | .const _ :: l => by simp [tmpsOf, tmpsOf_eq l]
  | .global _ :: l => by simp [tmpsOf, tmpsOf_eq l]
  | .func _ :: l => by simp [tmpsOf, tmpsOf_eq l]
theorem looksAt_eq (L : List Oper) (o : Oper) : o.looksAt L.toArray = lks L o := by
  unfold Oper.looksAt lks
  congr 1
  · exact tmpsOf_eq _
  · cases hg : o.guard with
    | none => rfl
    | some p =>
      obtain ⟨g, b⟩ := p
      simp only [guardT, List.getElem?_toArray]
      cases (L[g]?).bind (·.dst) <;> rfl

/-- a region all of whose operations are quiet -/
theorem ADr.all {C : Cx} {L : List Oper} {k : List Item} {id : Nat} {σ : St} (fuel : Nat) (hok : drawOK L.length L = true) (hv : VQ C L fuel [] k σ.h σ.n L.length L σ.t) : ADr C id L k σ :=
  ADr.intro L.length fuel hok (Nat.le_refl _) (by rw [List.drop_length, List.take_length]; exact hv)
/-- a region, cut behind its quiet operations -/
theorem ADr.cut {C : Cx} {L L1 L2 : List Oper} {k : List Item} {id : Nat} {σ : St} (fuel : Nat) (hL : L = L1 ++ L2) (hok : drawOK L1.length L = true) (hv : VQ C L fuel L2 k σ.h σ.n L1.length L1 σ.t) : ADr C id L k σ :=
  ADr.intro L1.length fuel hok (by rw [hL]; simp) (by rw [hL] at hv ⊢; simpa using hv)

theorem RI.here {E : Ent} {Q : AV → St → Prop} {av : AV} {h : Heap} {n : Nat} (hq : Q av ⟨[], h, n⟩) : RI E Q av ⟨[], h, n⟩ := ⟨av, h, n, Imp.refl _ _, hq⟩
theorem RI.to {E : Ent} {Q : AV → St → Prop} {av : AV} {h : Heap} {n : Nat} (av1 : AV) (h1 : Heap) (n1 : Nat) (hi : Imp E ⟨[(0, av)], h, n⟩ ⟨[(0, av1)], h1, n1⟩) (hq : Q av1 ⟨[], h1, n1⟩) : RI E Q av ⟨[], h, n⟩ := ⟨av1, h1, n1, hi, hq⟩
theorem wrap_i64 {n : Int} (h1 : -9223372036854775808 ≤ n) (h2 : n < 9223372036854775808) : IntKind.i64.wrap n = n := by
  simp [IntKind.wrap, IntKind.bits, IntKind.signed]
  omega
theorem wrap_u8 {n : Int} (h1 : 0 ≤ n) (h2 : n < 256) : IntKind.u8.wrap n = n := by
  simp [IntKind.wrap, IntKind.bits, IntKind.signed]
  omega
theorem wrap_i32 {n : Int} (h1 : -2147483648 ≤ n) (h2 : n < 2147483648) : IntKind.i32.wrap n = n := by
  simp [IntKind.wrap, IntKind.bits, IntKind.signed]
  omega
theorem wrap_u64 {n : Int} (h1 : 0 ≤ n) (h2 : n < 18446744073709551616) : IntKind.u64.wrap n = n := by
  simp [IntKind.wrap, IntKind.bits, IntKind.signed]
  omega

theorem VQp.mk {C : Cx} {L : List Oper} {fuel : Nat} {tail : List Oper} {k : List Item} {h : Heap} {m n : Nat} {os : List Oper} {o : Oper} {t : List (Nat × AV)} {c : Bool} {need : Prop} {f : FuncId} {args : List AV} (as : List FV) (r : FV)
    (h1 : c = true → need ∧ enters C.P f = true ∧ AV.fzs args = some as ∧ PC C.P f as (· = r)) (h2 : VQ C L fuel tail k h m n os (putT t o.dst (mkg c (.f r)))) : VQp C L fuel tail k h m n os o t c need f args := by
  simp only [VQp]
  exact ⟨as, r, h1, h2⟩

/-- an operation that the machine of this text does not know, under no guard: what it comes to is shown by hand -/
theorem AW.op {C : Cx} {n : Nat} {all os : List Oper} {o : Oper} {k : List Item} {σ : St} (v : AV) (hgd : o.guard = none)
    (h : ∀ ι S a w, Sim C.E C.N σ ι S a w → Good C.P C.E C.N a w (execOp a.eval o) v σ) (hk : AWn C n all os k (σ.put o.dst v)) : AW C all (o :: os) k σ := by
  intro ok hsuf hok hki ι S a w hs
  have hd := okOps_mem hok (hsuf.subset (List.mem_cons_self ..))
  have hsuf' : os <:+ all := (List.suffix_cons o os).trans hsuf
  have hg : guardOf all σ o.guard = some true := by rw [hgd]; rfl
  refine at_step (σ := σ) ?_ ?_ hs hg hsuf hok
  · intro c' hc' _
    refine wp_of_good (h ι S a w hs) hd ?_
    intro ι' S' a' w' hs'
    exact AWn_sound _ _ _ _ _ hk ok hsuf' hok hki ι' S' a' w' hs'
  · intro c' hc' hct
    rw [hg] at hc'; simp only [Option.some.injEq] at hc'
    rw [← hc'] at hct; cases hct
end Go.Fw
