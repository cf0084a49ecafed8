/-
  Fw23: ranges over functions, as they are used.
-/
import Derived.Test.YtddbbfonkgccnaaDoorFw22
set_option linter.unusedVariables false
namespace Go.Fw
open Go

/-- the caller goes on behind a loop, or with the jump that a round left -/
def GoOn (C : Cx) (fuel : Nat) (k : List Item) (T : List (Nat × AV)) (h : Heap) (n : Nat) : Prop := ∀ E', E'.n = C.E.n → AWn { C with E := E' } fuel [] [] k ⟨T, h, n⟩
/-- what a loop's context is told by -/
structure ItK (C : Cx) (ps : Array Tmp) (assign body : Code) (k : List Item) (T : List (Nat × AV)) (m fuel l : Nat) (P : Program) (fi N : Nat) (res : List ResultVar) (R : AV → St → Prop) (Φ : Value → World → Prop) (Ψ : Option Code → World → Prop) (Y : Ent → Prop) : Prop where
  fin : ∀ av h n, GoOn C fuel k T h n → R av ⟨[], h, n⟩
  yield : ∀ {E : Ent} {all os : List Oper} {o : Oper} {ki : List Item} {σ : St} (n nR : Nat) {x : Operand} {cl : Call} {xs : List AV}, Y E → guardOf all σ o.guard = some true → o.op = .call cl → cl.callee = .value x → ev σ x = some (true, .s (yv l)) →
    evl σ cl.args.toList = some (true, xs) → xs.length = ps.size → (ps.toList.all fun p => decide (p < C.N)) = true →
    (∀ (ER : Ent) (RR : AV → St → Prop) (ΦR : Value → World → Prop) (ΨR : Option Code → World → Prop), ER.n = σ.n → RoundG ⟨C.P, C.f, C.N, C.res, ER, RR, some l, ΦR, ΨR⟩ l →
      (∀ h n', (∀ E', E'.n = m → Y E' → AWn ⟨P, fi, N, res, E', R, none, Φ, Ψ⟩ n all os ki (St.put ⟨σ.t, h, n'⟩ o.dst (.s (.bool true)))) → RR (.s (.bool true)) ⟨[], h, n'⟩) →
      (∀ h n', (∀ E' R', E'.n = m → (∀ av h n, GoOn C fuel (.code .ret :: k) T h n → R' av ⟨[], h, n⟩) → AWn ⟨P, fi, N, res, E', R', none, Φ, Ψ⟩ n all os ki (St.put ⟨σ.t, h, n'⟩ o.dst (.s (.bool false)))) → RR (.tup []) ⟨[], h, n'⟩) →
      (∀ id h n', (∀ E' R', E'.n = m → (∀ av h n, GoOn C fuel (.code (.exit id) :: k) T h n → R' av ⟨[], h, n⟩) → AWn ⟨P, fi, N, res, E', R', none, Φ, Ψ⟩ n all os ki (St.put ⟨σ.t, h, n'⟩ o.dst (.s (.bool false)))) → RR (.it id) ⟨[], h, n'⟩) →
      AWn ⟨C.P, C.f, C.N, C.res, ER, RR, some l, ΦR, ΨR⟩ nR [] [] [.code assign, .beginRound, .code body] ⟨putPs ps.toList xs T, σ.h, σ.n⟩) →
    AW ⟨P, fi, N, res, E, R, none, Φ, Ψ⟩ all (o :: os) ki σ

theorem AW.ranged {C : Cx} {g : Operand} {ps : Array Tmp} {assign body : Code} {k : List Item} {σ : St} (hro : C.ro = none) (n fuel : Nat) {fi : FuncId} {fni : Func} {ci : Code} {first cap : List AV} (hg : ev σ g = some (true, .clo fi first cap))
    (hfi : C.P.funcs[fi]? = some fni) (hbi : fni.body = some ci) (hoki : okFn fni (first.length + (cap.length + 1)) = true) (hen : enters C.P fi = true) (hcode : (okCode C.N assign && okCode C.N body) = true)
    (hk : ∀ (l : Nat) (R : AV → St → Prop) (Φ : Value → World → Prop) (Ψ : Option Code → World → Prop) (Y : Ent → Prop) (E : Ent), E.n = σ.n → Y E → ItK C ps assign body k σ.t σ.n fuel l C.P fi fni.ntmps fni.results.toList R Φ Ψ Y →
      AWn ⟨C.P, fi, fni.ntmps, fni.results.toList, E, R, none, Φ, Ψ⟩ n [] [] [.code ci] ⟨slots 0 (first ++ (.s (yv l) :: cap)), σ.h, σ.n⟩) :
    AW C [] [] (.code (.rangeFunc g ps assign body) :: k) σ := by
  refine AW.range hro n fuel hg hfi hbi hoki hen hcode fun l Ci hn hit hCi => ?_
  refine hk l _ _ _ (fun E => ItG C ps assign body k σ.t σ.n fuel l none ⟨C.P, fi, fni.ntmps, fni.results.toList, E, RIT C k σ.t fuel none, none, Ci.Φ, Ci.Ψ⟩) Ci.E hn (by rw [← hCi]; exact hit) ⟨fun av h n hgo => hgo, ?_⟩
  intro E all os o ki σi n nR x cl xs hY hgd ho hc hx ha hlen hps hkk
  refine AW.yield n nR hY hgd ho hc hx ha hlen hps fun CR hCn hRG hCR => ?_
  refine hkk CR.E _ CR.Φ CR.Ψ hCn (by rw [← hCR]; exact hRG) ?_ ?_ ?_
  · intro h n' H E' hE' hit'
    exact H E' hE' hit'
  · intro h n' H E' hE' hit'
    exact H E' _ hE' (fun av h n hgo => hgo)
  · intro id h n' H E' hE' hit'
    exact H E' _ hE' (fun av h n hgo => hgo)

/-- a loop of an iterator: the base turns with each round -/
theorem AL.it {c : Code} {k : List Item} {X : Type} {CC : Ent → Cx} (n : Nat) (G : Ent → Prop) (I : X → Prop) (μ : X → Nat) (st : X → St) (x0 : X) {E0 : Ent} {σ0 : St} (hG : G E0) (h0 : I x0) (himp : Imp (CC E0).E σ0 (st x0))
    (hstep : ∀ E x, G E → I x → (∀ E' y σ', G E' → I y → μ y < μ x → Imp (CC E').E σ' (st y) → AL (CC E') c k σ') → AWn (CC E) n [] [] (.code c :: .inLoop c :: k) (st x)) : AL (CC E0) c k σ0 := by
  have key : ∀ m x E, μ x = m → G E → I x → AL (CC E) c k (st x) := by
    intro m
    induction m using Nat.strongRecOn with
    | _ m ih =>
      intro x E hm hE hI
      exact AWn_sound n _ _ _ _ (hstep E x hE hI fun E' y σ' hE' hy hlt hi => .imp hi (ih (μ y) (hm ▸ hlt) y E' rfl hE' hy))
  exact .imp himp (key _ x0 E0 rfl hG h0)

section
variable {C : Cx} {n : Nat} {all os : List Oper} {o : Oper} {k : List Item} {σ : St}
/-- two structs held against one another, under a guard that holds -/
theorem AW.cmpG (neq b : Bool) (d : Nat) {T U : TypeId} {x y : Operand} {X Y : AV} {xs ys lx ly : List Value} (hg : guardOf all σ o.guard = some true) (ho : o.op = .binOp (bif neq then .neq else .eql) T x y U) (hx : ev σ x = some (true, X)) (hy : ev σ y = some (true, Y))
    (vx : valsA X = some xs) (vy : valsA Y = some ys) (hm : C.P.eqGuardType C.P.depth T = false) (hagg : isAggT C.P T = true) (hd : d ≤ 10000) (cx : cmpL C.P d T xs = some lx) (cy : cmpL C.P d T ys = some ly) (hb : b = true ↔ lx = ly)
    (hk : AWn C n all os k (σ.put o.dst (.s (.bool (bif neq then !b else b))))) : AW C all (o :: os) k σ := by
  intro ok hsuf hok hki ι S a w hs
  have hdst := okOps_mem hok (hsuf.subset (List.mem_cons_self ..))
  have hsuf' : os <:+ all := (List.suffix_cons o os).trans hsuf
  refine at_step (σ := σ) ?_ ?_ hs hg hsuf hok
  · intro c' hc' hct
    have e1 := valsA_sound vx (ev_sound hs hx rfl)
    have e2 := valsA_sound vy (ev_sound hs hy rfl)
    have hrun := run_cmp (w := w) ho e1 e2 hm hagg hd cx cy hb
    unfold Oper.wp
    rw [hrun, Oper.upon_value]
    exact AWn_sound _ _ _ _ _ hk ok hsuf' hok hki ι S _ w (hs.put hdst (mk_v rfl))
  · intro c' hc' hct
    rw [hg] at hc'; simp only [Option.some.injEq] at hc'
    rw [← hc'] at hct; cases hct
end
end Go.Fw
