/-
  Fw22: ranges over functions: the caller goes into the iterator, the iterator into rounds, each by continuation.
-/
import Derived.Test.YtddbbfonkgccnaaDoorFw21
import Derived.RangeFuncIn
import Derived.RangeFuncRecord
import Derived.RangeFuncLeaves
set_option linter.unusedVariables false
namespace Go.Fw
open Go

/-- a later base E' of E, some blocks left out -/
structure Ext (E E' : Ent) (bad : List Nat) : Prop where
  size : E.w.heap.size ≤ E'.w.heap.size
  os : E'.w.os = E.w.os
  tape : E'.w.tape = E.w.tape
  output : E'.w.output = E.w.output
  keep : ∀ b, b < E.w.heap.size → ¬ E.own b → E'.w.heap[b]? = E.w.heap[b]?
  own : ∀ b, E'.own b → (E.own b ∨ E.w.heap.size ≤ b) ∧ ¬ E'.S b ∧ b ∉ bad
  ssub : ∀ b, E'.S b → E.S b ∨ (E.own b ∨ E.w.heap.size ≤ b)
  ssup : ∀ b, E.S b → E'.S b
  bad : ∀ b ∈ bad, E.w.heap.size ≤ b ∧ b < E'.w.heap.size ∧ ¬ E'.S b
  names : E.n ≤ E'.n
  same : ∀ id, id < E.n → E'.ι id = E.ι id

section
variable {E E' : Ent} {bad : List Nat} {h : Heap} {n : Nat} {ι : Nat → Loc} {S : Nat → Prop} {w w2 : World}

theorem Ext.free (x : Ext E E' bad) (hm : Mem E' h n ι S w) {b : Nat} (hb : b ∈ bad) : ¬ S b ∧ ∀ id o, lk id h = some o → (ι id).b ≠ some b := by
  obtain ⟨h1, h2, h3⟩ := x.bad b hb
  refine ⟨fun hS => ?_, fun id o hl e => ?_⟩
  · rcases hm.ssub b hS with h | h | h
    · exact h3 h
    · exact (x.own b h).2.2 hb
    · omega
  · rcases (hm.own id o b hl e).2.2 with h | h
    · exact (x.own b h).2.2 hb
    · omega
theorem Ext.still (x : Ext E E' bad) (hm : Mem E' h n ι S w) {b : Nat} (hb : b ∈ bad) : w.heap[b]? = E'.w.heap[b]? :=
  hm.keep b (x.bad b hb).2.1 fun ho => (x.own b ho).2.2 hb

structure Same (bad : List Nat) (w w2 : World) : Prop where
  heap : ∀ b, b ∉ bad → w2.heap[b]? = w.heap[b]?
  size : w2.heap.size = w.heap.size
  os : w2.os = w.os
  tape : w2.tape = w.tape
  output : w2.output = w.output
theorem Same.refl (bad : List Nat) (w : World) : Same bad w w := ⟨fun _ _ => rfl, rfl, rfl, rfl, rfl⟩
theorem Same.put {bad : List Nat} {w : World} {r : Nat} (o : Obj) (hr : r ∈ bad) : Same bad w (w.putObj r o) :=
  ⟨fun b hb => World.putObj_heap_other fun e => hb (e ▸ hr), World.putObj_size, rfl, rfl, rfl⟩

theorem Mem.back (x : Ext E E' bad) (hm : Mem E' h n ι S w) (q : Same bad w w2) : Mem E h n ι S w2 where
  obj id o hl := ⟨(hm.obj id o hl).1, (hm.obj id o hl).2.mono (fun _ h => h) (fun b hb => q.heap b fun hbad => (x.free hm hbad).1 hb) (Nat.le_refl _) (fun _ _ => rfl) (fun b hb => q.heap b fun hbad => (x.free hm hbad).2 id o hl hb)⟩
  own id o b hl hb := by
    obtain ⟨h1, h2, h3⟩ := hm.own id o b hl hb
    refine ⟨by rw [q.size]; exact h1, h2, ?_⟩
    rcases h3 with h | h
    · exact (x.own b h).1
    · exact .inr (Nat.le_trans x.size h)
  inj := hm.inj
  slt b hb := by rw [q.size]; exact hm.slt b hb
  ssub b hb := by
    rcases hm.ssub b hb with h | h | h
    · exact x.ssub b h
    · exact .inr (x.own b h).1
    · exact .inr (.inr (Nat.le_trans x.size h))
  ssup b hb := hm.ssup b (x.ssup b hb)
  keep b hb hno := by
    have hbad : b ∉ bad := fun hb' => absurd (x.bad b hb').1 (Nat.not_le.2 hb)
    rw [q.heap b hbad, hm.keep b (Nat.lt_of_lt_of_le hb x.size) fun ho => (x.own b ho).1.elim hno fun h => absurd h (Nat.not_le.2 hb), x.keep b hb hno]
  size := by rw [q.size]; exact Nat.le_trans x.size hm.size
  os := by rw [q.os, hm.os, x.os]
  tape := by rw [q.tape, hm.tape, x.tape]
  output := by rw [q.output, hm.output, x.output]
  names := Nat.le_trans x.names hm.names
  same id hid := by rw [hm.same id (Nat.lt_of_lt_of_le hid x.names), x.same id hid]

theorem VR.same {v : AV} {y : Value} (q : Same bad w w2) (hS : ∀ b ∈ bad, ¬ S b) (hv : VR S ι n w v y) : VR S ι n w2 v y :=
  hv.mono (fun _ h => h) (fun b hb => q.heap b fun hbad => hS b hbad hb) (Nat.le_refl _) (fun _ _ => rfl)

def baseE (E : Ent) (ι : Nat → Loc) (S : Nat → Prop) (w : World) (m : Nat) (bad : List Nat) (defs : List Deferred) : Ent :=
  { w := w, ι := ι, n := m, own := fun b => (E.own b ∨ E.w.heap.size ≤ b) ∧ ¬ S b ∧ b ∉ bad, S := S, defs := defs }

theorem Mem.base (hm : Mem E h n ι S w) (m : Nat) (bad : List Nat) (defs : List Deferred) (h1 : E.n ≤ m) (h2 : m ≤ n) (hbad : ∀ b ∈ bad, E.w.heap.size ≤ b ∧ b < w.heap.size ∧ ¬ S b ∧ ∀ id o, lk id h = some o → (ι id).b ≠ some b) :
    Ext E (baseE E ι S w m bad defs) bad ∧ Mem (baseE E ι S w m bad defs) h n ι S w :=
  ⟨{ size := hm.size, os := hm.os, tape := hm.tape, output := hm.output, keep := hm.keep, own := fun b h => h, ssub := hm.ssub, ssup := hm.ssup, bad := fun b hb => ⟨(hbad b hb).1, (hbad b hb).2.1, (hbad b hb).2.2.1⟩, names := h1, same := hm.same },
   { obj := hm.obj
     own := fun id o b hl hb => by
       obtain ⟨a1, a2, a3⟩ := hm.own id o b hl hb
       exact ⟨a1, a2, .inl ⟨a3, a2, fun hbb => (hbad b hbb).2.2.2 id o hl hb⟩⟩
     inj := hm.inj
     slt := hm.slt
     ssub := fun b hb => .inl hb
     ssup := fun b hb => hb
     keep := fun b _ _ => rfl
     size := Nat.le_refl _
     os := rfl
     tape := rfl
     output := rfl
     names := h2
     same := fun _ _ => rfl }⟩
theorem Ext.rebad (x : Ext E E' bad) (hm : Mem E' h n ι S w) (q : Same bad w w2) : ∀ b ∈ bad, E.w.heap.size ≤ b ∧ b < w2.heap.size ∧ ¬ S b ∧ ∀ id o, lk id h = some o → (ι id).b ≠ some b :=
  fun b hb => ⟨(x.bad b hb).1, by rw [q.size]; exact Nat.lt_of_lt_of_le (x.bad b hb).2.1 hm.size, (x.free hm hb).1, (x.free hm hb).2⟩
/-- a value told at a base holds on -/
theorem VR.on (hm : Mem E h n ι S w) (hS : ∀ b, E.S b → b < E.w.heap.size ∧ ¬ E.own b) {v : AV} {y : Value} (hv : VR E.S E.ι E.n E.w v y) : VR S ι n w v y :=
  hv.mono hm.ssup (fun b hb => hm.keep b (hS b hb).1 (hS b hb).2) hm.names hm.same
end

/-- the mark of a loop -/
def mark (D : Nat) : Deferred := { target := .collected D, args := #[] }
section
variable {C : Cx} {E' : Ent} {l D : Nat}
/-- behind a loop: the mark goes at the function's end -/
theorem Cx.Ok.after (ok : C.Ok) (hro : C.ro = none) (x : Ext C.E E' [l, D]) (hd : E'.defs = mark D :: C.E.defs) (hD : E'.w.heap[D]? = some (.deferred (some []))) : Cx.Ok { C with E := E' } where
  fn := ok.fn
  mixed := ok.mixed
  fin := by
    intro _ σ ι S a w hs hret b cs todo h1 h2 h3
    have hmem : D ∈ [l, D] := by simp
    have hw : w.heap[D]? = some (.deferred (some [])) := by rw [x.still hs.mem hmem]; exact hD
    have q : Same [l, D] w (w.putObj D (.deferred none)) := .put _ hmem
    have hsb : Sim C.E C.N σ ι S { a with defers := C.E.defs } (w.putObj D (.deferred none)) :=
      ⟨hs.mem.back x q, hs.tsz, fun t v hl => (hs.tm t v hl).same q fun b hb => (x.free hs.mem hb).1, rfl⟩
    obtain ⟨v, w', fr, hΦ, hst, hfn, hl⟩ := ok.fin hro σ ι S _ _ hsb hret b cs todo h1 h2 h3
    have hdef : a.defers = mark D :: C.E.defs := by rw [hs.def0]; exact hd
    have hstep := step_collected (P := C.P) (fr := { b.atR a todo with mode := .returning }) (cs := cs) (w := w) (d := mark D) (r := D) (ds := C.E.defs) (by simp) hdef rfl (run_takeDeferred hw)
    exact ⟨v, w', fr, hΦ, .head hstep hst, hfn, hl⟩
  finR := fun h => absurd hro h
end

/-- what the record of a loop holds -/
def recOf (C : Cx) (ps : Array Tmp) (assign body : Code) (a : Act) (D : Nat) (st : LoopState) (pend : Option Code) : Loop :=
  { state := st, pending := pend, fn := C.f, tmps := a.tmps, params := ps, assign := assign, body := body, defers := D }
def stOf (pend : Option Code) : LoopState := if pend.isNone then .ready else .done

/-- an iterator's base, beside its caller -/
structure ItE (C : Cx) (ps : Array Tmp) (assign body : Code) (T : List (Nat × AV)) (a : Act) (m l D : Nat) (pend : Option Code) (E : Ent) : Prop where
  ext : Ext C.E E [l, D]
  n : E.n = m
  defs : E.defs = []
  live : ∀ b, E.S b → b < E.w.heap.size ∧ ¬ E.own b
  tm : ∀ t v, lk t T = some v → VR E.S E.ι E.n E.w v (a.tmps.getD t undef)
  rcd : E.w.heap[l]? = some (.loop (recOf C ps assign body a D (stOf pend) pend))
  dfr : E.w.heap[D]? = some (.deferred (some []))
  ne : l ≠ D
def PhiIt (C : Cx) (k : List Item) (a : Act) (l D : Nat) (_ : Value) (w' : World) : Prop :=
  ∃ jump w4, (Instr.endLoop l).run C.P w' = .ok jump w4 ∧ Goes C ((jump.map Item.code).toList ++ k) { a with defers := mark D :: a.defers } w4
def RIT (C : Cx) (k : List Item) (T : List (Nat × AV)) (fuel : Nat) (pend : Option Code) (_ : AV) (σ' : St) : Prop :=
  ∀ E', E'.n = C.E.n → AWn { C with E := E' } fuel [] [] ((pend.map Item.code).toList ++ k) ⟨T, σ'.h, σ'.n⟩
/-- what stands fast about a loop that is under way -/
structure LoopG (C : Cx) (ps : Array Tmp) (assign body : Code) (k : List Item) (T : List (Nat × AV)) (m : Nat) (a : Act) (l D : Nat) : Prop where
  ok : C.Ok
  ro : C.ro = none
  tsz : a.tmps.size = C.N
  defs : a.defers = C.E.defs
  okk : okItems C.N k = true
  oka : okCode C.N assign = true
  okb : okCode C.N body = true
  em : C.E.n ≤ m

theorem jmp_ok {N : Nat} {k : List Item} (hk : okItems N k = true) : ∀ {pend : Option Code}, jOK pend = true → okItems N ((pend.map Item.code).toList ++ k) = true
  | none, _ => hk
  | some c, h => by
    cases c <;> simp [jOK] at h
    all_goals
      simp only [Option.map_some, Option.toList_some, List.cons_append, List.nil_append, okItems, List.all_cons, okItem, okCode, Bool.true_and]
      exact hk
theorem stOf_busy (pend : Option Code) : stOf pend ≠ .busy := by unfold stOf; split <;> simp

section
variable {C : Cx} {ps : Array Tmp} {assign body : Code} {k : List Item} {T : List (Nat × AV)} {a : Act} {m l D : Nat} {pend : Option Code} {E : Ent}

/-- an iterator's end: the caller goes on -/
theorem it_end {fuel : Nat} (g : LoopG C ps assign body k T m a l D) (it : ItE C ps assign body T a m l D pend E) (hp : jOK pend = true) {h : Heap} {n : Nat} {ι : Nat → Loc} {S : Nat → Prop} {w' : World} (av : AV) (hm : Mem E h n ι S w')
    (hr : RIT C k T fuel pend av ⟨[], h, n⟩) (v : Value) : PhiIt C k a l D v w' := by
  have ml : l ∈ [l, D] := by simp
  have mD : D ∈ [l, D] := by simp
  have hrec : w'.heap[l]? = some (.loop (recOf C ps assign body a D (stOf pend) pend)) := by rw [it.ext.still hm ml]; exact it.rcd
  have hdfr : w'.heap[D]? = some (.deferred (some [])) := by rw [it.ext.still hm mD]; exact it.dfr
  refine ⟨pend, _, run_endLoop hrec (stOf_busy _), ?_⟩
  generalize hw4 : w'.putObj l (.loop { recOf C ps assign body a D (stOf pend) pend with state := .exhausted }) = w4
  have q : Same [l, D] w' w4 := by rw [← hw4]; exact .put _ ml
  have hm4 : Mem C.E h n ι S w4 := hm.back it.ext q
  obtain ⟨x, hm5⟩ := hm4.base C.E.n [l, D] (mark D :: C.E.defs) (Nat.le_refl _) hm4.names (it.ext.rebad hm q)
  have hd4 : w4.heap[D]? = some (.deferred (some [])) := by
    rw [← hw4, World.putObj_heap_other (fun e => it.ne e.symm)]; exact hdfr
  have ok' := Cx.Ok.after g.ok g.ro x rfl hd4
  have hs : Sim (baseE C.E ι S w4 C.E.n [l, D] (mark D :: C.E.defs)) C.N ⟨T, h, n⟩ ι S { a with defers := mark D :: a.defers } w4 :=
    ⟨hm5, g.tsz, fun t v hl => ((it.tm t v hl).on hm it.live).same q fun b hb => (it.ext.free hm hb).1, by show mark D :: a.defers = _; rw [g.defs]; rfl⟩
  exact at_nil.1 (AWn_sound (C := { C with E := baseE C.E ι S w4 C.E.n [l, D] (mark D :: C.E.defs) }) _ _ _ _ _ (hr _ rfl) ok' (List.suffix_refl _) rfl (jmp_ok g.okk hp) ι S _ w4 hs)

/-- the iterator's context holds its word -/
theorem it_ok {fuel : Nat} {fi : FuncId} {fni : Func} (g : LoopG C ps assign body k T m a l D) (it : ItE C ps assign body T a m l D pend E) (hp : jOK pend = true) (hfi : C.P.funcs[fi]? = some fni) (Ψ : Option Code → World → Prop) :
    Cx.Ok ⟨C.P, fi, fni.ntmps, fni.results.toList, E, RIT C k T fuel pend, none, PhiIt C k a l D, Ψ⟩ :=
  Cx.Ok.plain (C := ⟨C.P, fi, fni.ntmps, fni.results.toList, E, RIT C k T fuel pend, none, PhiIt C k a l D, Ψ⟩) hfi rfl g.ok.mixed rfl it.defs fun v w' hF => by
    obtain ⟨av, h, n, ι, S, hr, hm, _⟩ := hF
    exact it_end g it hp av hm hr v
end

/-- a loop that is under way, and who goes through it -/
def ItG (C : Cx) (ps : Array Tmp) (assign body : Code) (k : List Item) (T : List (Nat × AV)) (m fuel : Nat) (l : Nat) (pend : Option Code) (Ci : Cx) : Prop :=
  ∃ a D fni, LoopG C ps assign body k T m a l D ∧ ItE C ps assign body T a m l D pend Ci.E ∧ jOK pend = true ∧ C.P.funcs[Ci.f]? = some fni ∧
    Ci.P = C.P ∧ Ci.N = fni.ntmps ∧ Ci.res = fni.results.toList ∧ Ci.R = RIT C k T fuel pend ∧ Ci.ro = none ∧ Ci.Φ = PhiIt C k a l D
theorem ItG.ok {C : Cx} {ps : Array Tmp} {assign body : Code} {k : List Item} {T : List (Nat × AV)} {m fuel l : Nat} {pend : Option Code} {Ci : Cx} (h : ItG C ps assign body k T m fuel l pend Ci) : Ci.Ok := by
  obtain ⟨a, D, fni, g, it, hp, hf, e1, e2, e3, e4, e5, e6⟩ := h
  obtain ⟨P, f, N, res, E, R, ro, Φ, Ψ⟩ := Ci
  simp only at it hf e1 e2 e3 e4 e5 e6
  subst e1 e2 e3 e4 e5 e6
  exact it_ok g it hp hf Ψ

def yv (l : Nat) : Value := .func (.yield l) #[] #[]

/-- into a range over a function -/
theorem AW.range {C : Cx} {g : Operand} {ps : Array Tmp} {assign body : Code} {k : List Item} {σ : St} (hro : C.ro = none) (n fuel : Nat) {fi : FuncId} {fni : Func} {ci : Code} {first cap : List AV} (hg : ev σ g = some (true, .clo fi first cap))
    (hfi : C.P.funcs[fi]? = some fni) (hbi : fni.body = some ci) (hoki : okFn fni (first.length + (cap.length + 1)) = true) (hen : enters C.P fi = true) (hcode : (okCode C.N assign && okCode C.N body) = true)
    (hk : ∀ l Ci, Ci.E.n = σ.n → ItG C ps assign body k σ.t σ.n fuel l none Ci → Ci = ⟨C.P, fi, fni.ntmps, fni.results.toList, Ci.E, RIT C k σ.t fuel none, none, Ci.Φ, Ci.Ψ⟩ →
      AWn ⟨C.P, fi, fni.ntmps, fni.results.toList, Ci.E, RIT C k σ.t fuel none, none, Ci.Φ, Ci.Ψ⟩ n [] [] [.code ci] ⟨slots 0 (first ++ (.s (yv l) :: cap)), σ.h, σ.n⟩) :
    AW C [] [] (.code (.rangeFunc g ps assign body) :: k) σ := by
  intro ok hsuf hok hki ι S a w hs
  rw [at_nil]
  simp only [okItems, List.all_cons, Bool.and_eq_true] at hki
  simp only [Bool.and_eq_true] at hcode
  intro b cs h1 h2 h3
  rw [hro] at h3
  have henter := run_enterLoop_outer (P := C.P) (w := w) b.fn a.tmps ps assign body
  rw [← h3] at henter
  generalize hw1 : w.alloc (.deferred (some [])) = w1 at henter
  generalize hw2 : w1.alloc (.loop { state := .ready, pending := none, fn := b.fn, tmps := a.tmps, params := ps, assign, body, defers := w.heap.size }) = w2 at henter
  have hsz1 : w1.heap.size = w.heap.size + 1 := by rw [← hw1]; simp
  have hsz2 : w2.heap.size = w.heap.size + 2 := by rw [← hw2]; simp [hsz1]
  have q1 : Quiet w w1 := by rw [← hw1]; exact Quiet.alloc _ _
  have q2 : Quiet w1 w2 := by rw [← hw2]; exact Quiet.alloc _ _
  have q := q1.trans q2
  have hs2 := hs.quiet q
  generalize hl : w.heap.size + 1 = l at henter
  generalize hD : w.heap.size = D at henter hw2
  have hrec : w2.heap[l]? = some (.loop (recOf C ps assign body a D (stOf none) none)) := by
    have := World.alloc_heap_new w1 (.loop { state := .ready, pending := none, fn := b.fn, tmps := a.tmps, params := ps, assign, body, defers := D })
    rw [hw2, hsz1, hl, h1] at this
    exact this
  have hdfr : w2.heap[D]? = some (.deferred (some [])) := by
    rw [q2.heap D (by omega), ← hw1, ← hD]
    exact World.alloc_heap_new w _
  have hbad : ∀ c ∈ [l, D], C.E.w.heap.size ≤ c ∧ c < w2.heap.size ∧ ¬ S c ∧ ∀ id o, lk id σ.h = some o → (ι id).b ≠ some c := by
    intro c hc
    have hge : w.heap.size ≤ c := by
      simp only [List.mem_cons, List.not_mem_nil, or_false] at hc
      rcases hc with rfl | rfl <;> omega
    have hlt : c < w2.heap.size := by
      simp only [List.mem_cons, List.not_mem_nil, or_false] at hc
      rcases hc with rfl | rfl <;> omega
    exact ⟨Nat.le_trans hs.mem.size hge, hlt, fun hS => absurd (hs.mem.slt c hS) (Nat.not_lt.2 hge), fun id o hlo e => absurd (hs.mem.own id o c hlo e).1 (Nat.not_lt.2 hge)⟩
  obtain ⟨x, hm0⟩ := hs2.mem.base σ.n [l, D] [] hs.mem.names (Nat.le_refl _) hbad
  have g0 : LoopG C ps assign body k σ.t σ.n a l D := ⟨ok, hro, hs.tsz, hs.def0, hki.2, hcode.1, hcode.2, hs.mem.names⟩
  have it0 : ItE C ps assign body σ.t a σ.n l D none (baseE C.E ι S w2 σ.n [l, D] []) :=
    { ext := x, n := rfl, defs := rfl, live := fun b hb => ⟨hs2.mem.slt b hb, fun h => h.2.1 hb⟩, tm := hs2.tm, rcd := hrec, dfr := hdfr, ne := by omega }
  have e1 := ev_sound hs2 hg rfl
  simp only [VR] at e1
  obtain ⟨fs, cs', eg, hfs, hcs⟩ := e1
  have hres : (resolve a.eval (rangeCall g l) 0).run C.P w2 = .ok { target := .fn (.func fi) cs', args := fs ++ #[yv l] } w2 := by
    have h0 : resolve a.eval (rangeCall g l) 0 = Deferred.ofValue (a.eval g) (#[Operand.const (yv l)].map a.eval) := rfl
    have h00 : #[Operand.const (yv l)].map a.eval = #[yv l] := by simp [Act.eval]
    rw [h0, h00, eg]
    simp [Deferred.ofValue]
  have hinv : (invoke (.fn (.func fi) cs') (fs ++ #[yv l])).run C.P w2 = .ok (.enter fi ((fs ++ #[yv l]) ++ cs')) w2 := by
    simp [invoke, run_enters hen]
  have hstep := stepR_rangeFunc (P := C.P) (b := b) (a := a) (k := k) (cs := cs) (w := w) (g := g) henter hres hinv
  generalize hargs : (fs ++ #[yv l]) ++ cs' = args at hinv hstep
  have hargsv : VRs S ι σ.n w2 (first ++ (.s (yv l) :: cap)) args.toList := by
    rw [← hargs]
    simp only [Array.toList_append, List.append_assoc]
    refine hfs.append ?_
    simp only [List.cons_append, List.nil_append, VRs]
    exact ⟨yv l, cs'.toList, rfl, mk_v rfl, hcs⟩
  let Ci : Cx := ⟨C.P, fi, fni.ntmps, fni.results.toList, baseE C.E ι S w2 σ.n [l, D] [], RIT C k σ.t fuel none, none, PhiIt C k a l D, fun _ _ => False⟩
  have hit : ItG C ps assign body k σ.t σ.n fuel l none Ci := ⟨a, D, fni, g0, it0, rfl, hfi, rfl, rfl, rfl, rfl, rfl, rfl⟩
  simp only [okFn, hbi, Bool.and_eq_true, decide_eq_true_eq] at hoki
  have hsi : Sim Ci.E Ci.N ⟨slots 0 (first ++ (.s (yv l) :: cap)), σ.h, σ.n⟩ ι S ⟨args ++ Array.replicate (fni.ntmps - args.size) undef, []⟩ w2 :=
    sim_entry hm0 hargsv (by simpa using hoki.2) rfl
  have hgo : Goes Ci [.code ci] ⟨args ++ Array.replicate (fni.ntmps - args.size) undef, []⟩ w2 :=
    at_nil.1 (AWn_sound n [] [] _ _ (hk l Ci rfl hit rfl) hit.ok (List.suffix_refl _) rfl (by simp [okItems, okItem]; exact hoki.1) ι S _ w2 hsi)
  let bi : Frame := { (default : Frame) with fn := fi, kind := .normal, roundOf := none }
  have hfr : Frame.enter C.P fi args .normal = bi.atR ⟨args ++ Array.replicate (fni.ntmps - args.size) undef, []⟩ [.code ci] := by
    simp [Frame.enter, Frame.atR, hfi, hbi, bi]
  rw [hfr] at hstep
  have hdn : ∃ v w' fr, PhiIt C k a l D v w' ∧ Steps C.P (lone (bi.atR ⟨args ++ Array.replicate (fni.ntmps - args.size) undef, []⟩ [.code ci]) (b.atR { a with defers := [mark D] ++ a.defers } (.inRangeFunc l :: k) :: cs) w2)
      (lone fr (b.atR { a with defers := [mark D] ++ a.defers } (.inRangeFunc l :: k) :: cs) w') ∧ fr.fn = fi ∧ fr.leaving C.P w' (.returned v) := hgo bi _ rfl rfl rfl
  obtain ⟨v, w', fr, ⟨jump, w4, hend, hgC⟩, hst, hfn, hleave⟩ := hdn
  have s3 := step_leave_returned (c := b.atR { a with defers := [mark D] ++ a.defers } (.inRangeFunc l :: k)) (cs := cs) hleave
  rw [finish_atR_inRangeFunc] at s3
  have s4 := stepR_endRangeFunc (P := C.P) (b := b) (a := { a with defers := [mark D] ++ a.defers }) (k := k) (cs := cs) hend
  have hdone := hgC b cs h1 h2 (by rw [hro]; exact h3)
  exact .of_steps (.head hstep (Steps.trans hst (.head s3 (.one s4)))) hdone

/-- one operation of a region, whatever it is -/
theorem at_stepIn {C : Cx} {all os : List Oper} {o : Oper} {k : List Item} {σ : St} {ι : Nat → Loc} {S : Nat → Prop} {a : Act} {w : World}
    (hw : o.wpIn C.F 0 C.P a w (fun a' w' => At C all os k a' w') (QN C k)) (hs : Sim C.E C.N σ ι S a w) (hg : guardOf all σ o.guard = some true) (hsuf : o :: os <:+ all) : At C all (o :: os) k a w := by
  obtain ⟨h1, h2⟩ := suf_get hsuf
  have hwant := guard_sound hs hg
  unfold At
  rw [show (o :: os).length = os.length + 1 from rfl] at h1 h2 ⊢
  rw [List.range'_succ]
  simp only [wpOpsIn, h1]
  have hrest : wpOpsIn C.F 0 C.P all.toArray (QN C k) (List.range' (all.length - (os.length + 1) + 1) os.length) = fun a' w' => At C all os k a' w' := by
    funext a' w'
    rw [At, h2]
  rw [hwant, hrest]
  simpa using hw

/-- a round that may begin -/
def RoundG (CR : Cx) (l : Nat) : Prop := CR.ro = some l ∧ ∀ (σ : St) ι S a w, Sim CR.E CR.N σ ι S a w → ∃ w1 E1, (Instr.beginRound l).run CR.P w = .ok () w1 ∧ E1.n = CR.E.n ∧ Sim E1 CR.N σ ι S a w1 ∧ Cx.Ok { CR with E := E1 }
theorem AW.beginRound {CR : Cx} {l : Nat} {k : List Item} {σ : St} (n : Nat) (h : RoundG CR l) (hk : ∀ E1, E1.n = CR.E.n → AWn { CR with E := E1 } n [] [] k σ) : AW CR [] [] (.beginRound :: k) σ := by
  intro ok hsuf hok hki ι S a w hs
  rw [at_nil]
  obtain ⟨hro, h⟩ := h
  obtain ⟨w1, E1, hrun, hn, hs1, ok1⟩ := h σ ι S a w hs
  simp only [okItems, List.all_cons, Bool.and_eq_true] at hki
  intro b cs h1 h2 h3
  have hst := stepR_beginRound (P := CR.P) (b := b) (a := a) (k := k) (cs := cs) (by rw [h3]; exact hro) hrun
  have hgo : Goes { CR with E := E1 } k a w1 := at_nil.1 (AWn_sound n [] [] _ _ (hk E1 hn) ok1 (List.suffix_refl _) rfl hki.2 ι S _ w1 hs1)
  exact .of_steps (.one hst) (hgo b cs h1 h2 h3)

/-- where a round ends, the iterator goes on -/
def RRd (C : Cx) (ps : Array Tmp) (assign body : Code) (k : List Item) (T : List (Nat × AV)) (m fuel l : Nat) (Ci : Cx) (n : Nat) (all os : List Oper) (ki : List Item) (ti : List (Nat × AV)) (d : Option Nat) : AV → St → Prop
  | .f (.v (.bool true)), σ' => ∀ E', E'.n = m → ItG C ps assign body k T m fuel l none { Ci with E := E' } → AWn { Ci with E := E' } n all os ki (St.put ⟨ti, σ'.h, σ'.n⟩ d (.s (.bool true)))
  | .tup [], σ' => ∀ E', E'.n = m → ItG C ps assign body k T m fuel l (some .ret) { Ci with E := E', R := RIT C k T fuel (some .ret) } → AWn { Ci with E := E', R := RIT C k T fuel (some .ret) } n all os ki (St.put ⟨ti, σ'.h, σ'.n⟩ d (.s (.bool false)))
  | .it id, σ' => ∀ E', E'.n = m → ItG C ps assign body k T m fuel l (some (.exit id)) { Ci with E := E', R := RIT C k T fuel (some (.exit id)) } → AWn { Ci with E := E', R := RIT C k T fuel (some (.exit id)) } n all os ki (St.put ⟨ti, σ'.h, σ'.n⟩ d (.s (.bool false)))
  | _, _ => False
def putPs (ps : List Nat) (xs : List AV) (T : List (Nat × AV)) : List (Nat × AV) := (ps.zip xs).foldl (fun t p => p :: t) T

theorem putPs_sound {S : Nat → Prop} {ι : Nat → Loc} {n : Nat} {w : World} : ∀ (ps : List Nat) (xs : List AV) (vs : List Value) (T : List (Nat × AV)) (tm : Array Value), VRs S ι n w xs vs → (∀ p ∈ ps, p < tm.size) →
    (∀ t v, lk t T = some v → VR S ι n w v (tm.getD t undef)) →
    (∀ t v, lk t (putPs ps xs T) = some v → VR S ι n w v (((ps.zip vs).foldl (fun tmps p => tmps.setIfInBounds p.1 p.2) tm).getD t undef)) ∧ ((ps.zip vs).foldl (fun tmps p => tmps.setIfInBounds p.1 p.2) tm).size = tm.size
  | [], xs, vs, T, tm, _, _, h => ⟨by simpa [putPs] using h, by simp⟩
  | p :: ps, [], vs, T, tm, hv, _, h => by
    simp only [VRs] at hv; subst hv
    exact ⟨by simpa [putPs] using h, by simp⟩
  | p :: ps, x :: xs, vs, T, tm, hv, hp, h => by
    simp only [VRs] at hv
    obtain ⟨y, ys, rfl, hy, hv⟩ := hv
    have := putPs_sound ps xs ys ((p, x) :: T) (tm.setIfInBounds p y) hv (fun q hq => by simpa using hp q (by simp [hq])) (fun t v hl => by
      rw [lk_cons] at hl
      split at hl
      · rename_i e; subst e
        simp only [Option.some.injEq] at hl; subst hl
        have : (tm.setIfInBounds t y).getD t undef = y := by
          simp [Array.getD_eq_getD_getElem?, hp t (by simp)]
        rw [this]; exact hy
      · rename_i e
        have : (tm.setIfInBounds p y).getD t undef = tm.getD t undef := by
          simp [Array.getD_eq_getD_getElem?, Array.getElem?_setIfInBounds_ne (Ne.symm e)]
        rw [this]; exact h t v hl)
    refine ⟨fun t v hl => this.1 t v hl, by simpa using this.2⟩

section
variable {C : Cx} {ps : Array Tmp} {assign body : Code} {k : List Item} {T : List (Nat × AV)} {a ai : Act} {m l D fuel : Nat} {E : Ent} {Ci : Cx} {all os : List Oper} {ki : List Item} {ti : List (Nat × AV)} {d : Option Nat} {n mi : Nat}

/-- a round's base -/
structure RoE (C : Cx) (ps : Array Tmp) (assign body : Code) (T : List (Nat × AV)) (a : Act) (m l D : Nat) (ti : List (Nat × AV)) (ai : Act) (mi : Nat) (st : LoopState) (E : Ent) : Prop where
  ext : Ext C.E E [l, D]
  n : E.n = mi
  mle : m ≤ mi
  defs : E.defs = []
  live : ∀ b, E.S b → b < E.w.heap.size ∧ ¬ E.own b
  tmT : ∀ t v, lk t T = some v → VR E.S E.ι m E.w v (a.tmps.getD t undef)
  tmI : ∀ t v, lk t ti = some v → VR E.S E.ι mi E.w v (ai.tmps.getD t undef)
  rcd : E.w.heap[l]? = some (.loop (recOf C ps assign body a D st none))
  dfr : E.w.heap[D]? = some (.deferred (some []))
  ne : l ≠ D
def PsiR (Ci : Cx) (l : Nat) (all os : List Oper) (ki : List Item) (ai : Act) (d : Option Nat) (j : Option Code) (w' : World) : Prop :=
  ∃ w'', (Instr.endRound l j).run Ci.P w' = .ok (.bool j.isNone) w'' ∧ At Ci all os ki (ai.put d (.bool j.isNone)) w''

theorem VR.onto {E : Ent} {h : Heap} {n : Nat} {ι : Nat → Loc} {S : Nat → Prop} {w : World} (hm : Mem E h n ι S w) (hS : ∀ b, E.S b → b < E.w.heap.size ∧ ¬ E.own b) {m m' : Nat} (h1 : m ≤ E.n) (h2 : m ≤ m') {v : AV} {y : Value} (hv : VR E.S E.ι m E.w v y) : VR S ι m' w v y :=
  hv.mono hm.ssup (fun b hb => hm.keep b (hS b hb).1 (hS b hb).2) h2 (fun id hid => hm.same id (Nat.lt_of_lt_of_le hid h1))

theorem ro_fin (g : LoopG C ps assign body k T m a l D) (hit : ItG C ps assign body k T m fuel l none Ci) (hd0 : Ci.Φ = PhiIt C k a l D) {st : LoopState} (ro : RoE C ps assign body T a m l D ti ai mi st E) (hsz : ai.tmps.size = Ci.N) (hdf : ai.defers = []) (hdd : ∀ d', d = some d' → d' < Ci.N)
    (hsuf : os <:+ all) (hok : okOps Ci.N all = true) (hki : okItems Ci.N ki = true) (j : Option Code) (σ' : St) (ι : Nat → Loc) (S : Nat → Prop) (w : World) (hj : jOK j = true) (hm : Mem E σ'.h σ'.n ι S w)
    (hr : RRd C ps assign body k T m fuel l Ci n all os ki ti d (jAV j) ⟨[], σ'.h, σ'.n⟩) : PsiR Ci l all os ki ai d j w := by
  have ml : l ∈ [l, D] := by simp
  have mD : D ∈ [l, D] := by simp
  have hrec : w.heap[l]? = some (.loop (recOf C ps assign body a D st none)) := by rw [ro.ext.still hm ml]; exact ro.rcd
  refine ⟨_, run_endRound j hrec, ?_⟩
  generalize hw2 : w.putObj l (.loop { recOf C ps assign body a D st none with state := if j.isNone then .ready else .done, pending := j }) = w2
  have q : Same [l, D] w w2 := by rw [← hw2]; exact .put _ ml
  have hm2 : Mem C.E σ'.h σ'.n ι S w2 := hm.back ro.ext q
  have hmn : m ≤ σ'.n := Nat.le_trans ro.mle (by have := hm.names; rw [ro.n] at this; exact this)
  obtain ⟨x, hm3⟩ := hm2.base m [l, D] [] g.em hmn (ro.ext.rebad hm q)
  have hl2 : l < w.heap.size := Nat.lt_of_lt_of_le (ro.ext.bad l ml).2.1 hm.size
  have it2 : ItE C ps assign body T a m l D j (baseE C.E ι S w2 m [l, D] []) :=
    { ext := x, n := rfl, defs := rfl, live := fun b hb => ⟨hm2.slt b hb, fun h => h.2.1 hb⟩
      tm := fun t v hl => ((ro.tmT t v hl).onto hm ro.live (by rw [ro.n]; exact ro.mle) (Nat.le_refl _)).same q fun b hb => (ro.ext.free hm hb).1
      rcd := by
        show w2.heap[l]? = _
        rw [← hw2, World.putObj_heap_same hl2]
        rfl
      dfr := by
        show w2.heap[D]? = _
        rw [← hw2, World.putObj_heap_other (fun e => ro.ne e.symm), ro.ext.still hm mD]; exact ro.dfr
      ne := ro.ne }
  obtain ⟨a0, D0, fni, g0, it0, hp0, hf, e1, e2, e3, e4, e5, e6⟩ := hit
  have hs : ∀ b : Bool, Sim (baseE C.E ι S w2 m [l, D] []) Ci.N (St.put ⟨ti, σ'.h, σ'.n⟩ d (.s (.bool b))) ι S (ai.put d (.bool b)) w2 := fun b =>
    Sim.put (σ := ⟨ti, σ'.h, σ'.n⟩) ⟨hm3, hsz, fun t v hl => ((ro.tmI t v hl).onto hm ro.live (by rw [ro.n]; exact Nat.le_refl _) (by have := hm.names; rw [ro.n] at this; exact this)).same q fun b hb => (ro.ext.free hm hb).1, by rw [hdf]; rfl⟩ hdd (mk_v rfl)
  have hok2 : ∀ (j' : Option Code), j' = j → ItG C ps assign body k T m fuel l j' { Ci with E := baseE C.E ι S w2 m [l, D] [], R := RIT C k T fuel j' } := by
    rintro _ rfl
    exact ⟨a, D, fni, g, it2, hj, hf, e1, e2, e3, rfl, e5, hd0⟩
  match j, hj with
  | none, _ =>
    have hi := hok2 none rfl
    rw [← e4] at hi
    have := hr (baseE C.E ι S w2 m [l, D] []) rfl hi
    exact AWn_sound (C := { Ci with E := baseE C.E ι S w2 m [l, D] [] }) _ _ _ _ _ this hi.ok hsuf hok hki ι S _ w2 (hs true)
  | some .ret, _ =>
    have hi := hok2 (some .ret) rfl
    have := hr (baseE C.E ι S w2 m [l, D] []) rfl hi
    exact AWn_sound (C := { Ci with E := baseE C.E ι S w2 m [l, D] [], R := RIT C k T fuel (some .ret) }) _ _ _ _ _ this hi.ok hsuf hok hki ι S _ w2 (hs false)
  | some (.exit id), _ =>
    have hi := hok2 (some (.exit id)) rfl
    have := hr (baseE C.E ι S w2 m [l, D] []) rfl hi
    exact AWn_sound (C := { Ci with E := baseE C.E ι S w2 m [l, D] [], R := RIT C k T fuel (some (.exit id)) }) _ _ _ _ _ this hi.ok hsuf hok hki ι S _ w2 (hs false)
end

theorem foldl_zip {α β γ : Type} (f : γ → α × β → γ) (xs : Array α) (ys : Array β) (z : γ) : (xs.zip ys).foldl f z = (xs.toList.zip ys.toList).foldl f z := by
  rw [← Array.foldl_toList, Array.toList_zip]

/-- the iterator calls what it was handed: a round -/
theorem AW.yield {C : Cx} {ps : Array Tmp} {assign body : Code} {k : List Item} {T : List (Nat × AV)} {m fuel l : Nat} {Ci : Cx} {all os : List Oper} {o : Oper} {ki : List Item} {σ : St} (n nR : Nat) {x : Operand} {cl : Call} {xs : List AV}
    (hit : ItG C ps assign body k T m fuel l none Ci) (hg : guardOf all σ o.guard = some true) (ho : o.op = .call cl) (hc : cl.callee = .value x) (hx : ev σ x = some (true, .s (yv l))) (ha : evl σ cl.args.toList = some (true, xs))
    (hlen : xs.length = ps.size) (hps : (ps.toList.all fun p => decide (p < C.N)) = true)
    (hk : ∀ CR : Cx, CR.E.n = σ.n → RoundG CR l → CR = ⟨C.P, C.f, C.N, C.res, CR.E, RRd C ps assign body k T m fuel l Ci n all os ki σ.t o.dst, some l, CR.Φ, CR.Ψ⟩ →
      AWn ⟨C.P, C.f, C.N, C.res, CR.E, RRd C ps assign body k T m fuel l Ci n all os ki σ.t o.dst, some l, CR.Φ, CR.Ψ⟩ nR [] [] [.code assign, .beginRound, .code body] ⟨putPs ps.toList xs T, σ.h, σ.n⟩) :
    AW Ci all (o :: os) ki σ := by
  intro ok hsuf hok hki ι S ai w hs
  have hit' := hit
  obtain ⟨a, D, fni, g, it, hp, hf, e1, e2, e3, e4, e5, e6⟩ := hit
  have hd := okOps_mem hok (hsuf.subset (List.mem_cons_self ..))
  have hnd := okOps_nd hok (hsuf.subset (List.mem_cons_self ..))
  have hsuf' : os <:+ all := (List.suffix_cons o os).trans hsuf
  refine at_stepIn ?_ hs hg hsuf
  have ml : l ∈ [l, D] := by simp
  have mD : D ∈ [l, D] := by simp
  have hrec : w.heap[l]? = some (.loop (recOf C ps assign body a D .ready none)) := by rw [it.ext.still hs.mem ml]; exact it.rcd
  have hdfr : w.heap[D]? = some (.deferred (some [])) := by rw [it.ext.still hs.mem mD]; exact it.dfr
  have hsem : o.semAt Ci.F.round ai.eval = execOp ai.eval o := by
    unfold Oper.semAt
    split
    · rename_i ho'; rw [ho'] at hnd; cases hnd
    · rfl
  have k1 := vr_v (ev_sound hs hx rfl)
  have kv := evl_sound hs ha rfl
  have hvl : (cl.args.map ai.eval).size = ps.size := by
    have := kv.length
    simp only [List.length_map, Array.length_toList] at this
    simp only [Array.size_map]
    omega
  have hrun : (execOp ai.eval o).run Ci.P w = .ok (.round l C.f ((ps.zip (cl.args.map ai.eval)).foldl (fun tmps (t, a) => tmps.setIfInBounds t a) a.tmps) assign body) w := by
    have := run_yield (P := Ci.P) (args := cl.args.map ai.eval) hrec hvl
    simp only [recOf] at this
    have h2 : (execOp ai.eval o) = (do let d ← resolve ai.eval cl o.type; invoke d.target d.args) := by simp [execOp, ho]
    have h3 : resolve ai.eval cl o.type = Deferred.ofValue (ai.eval x) (cl.args.map ai.eval) := by simp [resolve, hc]
    rw [h2, h3, k1]
    simp [Deferred.ofValue, yv, invoke, this]
  unfold Oper.wpIn
  refine ⟨fun f _ => Ci.F_fn f, ?_⟩
  rw [hsem, hrun, Oper.uponIn_round]
  refine ⟨fun hh => (by rw [Ci.F_depth] at hh; cases hh), Ci.F_fn _, fun c cs _ => ?_⟩
  generalize htm : ((ps.zip (cl.args.map ai.eval)).foldl (fun tmps (t, a) => tmps.setIfInBounds t a) a.tmps) = tmps
  -- the round's base
  have hmC : Mem C.E σ.h σ.n ι S w := hs.mem.back it.ext (.refl _ _)
  have hmn : m ≤ σ.n := by have := hs.mem.names; rw [it.n] at this; exact this
  obtain ⟨xR, hmR⟩ := hmC.base σ.n [l, D] [] (Nat.le_trans g.em hmn) (Nat.le_refl _) (it.ext.rebad hs.mem (.refl _ _))
  have roR : RoE C ps assign body T a m l D σ.t ai σ.n .ready (baseE C.E ι S w σ.n [l, D] []) :=
    { ext := xR, n := rfl, mle := hmn, defs := rfl, live := fun b hb => ⟨hs.mem.slt b hb, fun h => h.2.1 hb⟩
      tmT := fun t v hl => by
        have := it.tm t v hl
        rw [it.n] at this
        exact this.onto hs.mem it.live (by rw [it.n]; exact Nat.le_refl _) (Nat.le_refl _)
      tmI := hs.tm, rcd := hrec, dfr := hdfr, ne := it.ne }
  have hsz : ai.tmps.size = Ci.N := hs.tsz
  have hdf : ai.defers = [] := by rw [hs.def0]; exact it.defs
  let CR : Cx := ⟨C.P, C.f, C.N, C.res, baseE C.E ι S w σ.n [l, D] [], RRd C ps assign body k T m fuel l Ci n all os ki σ.t o.dst, some l, fun _ _ => False, PsiR Ci l all os ki ai o.dst⟩
  have okR : ∀ {st : LoopState} {E1 : Ent}, RoE C ps assign body T a m l D σ.t ai σ.n st E1 → Cx.Ok { CR with E := E1 } := fun {st E1} ro =>
    { fn := g.ok.fn
      mixed := g.ok.mixed
      fin := fun h => by cases h
      finR := fun _ j σ' ι' S' a' w' hj hs' hr => ro_fin (n := n) g hit' e6 ro hsz hdf hd hsuf' hok hki j σ' ι' S' w' hj hs'.mem hr }
  have hRG : RoundG CR l := by
    refine ⟨rfl, fun σ' ι' S' a' w' hs' => ?_⟩
    have hrec' : w'.heap[l]? = some (.loop (recOf C ps assign body a D .ready none)) := by rw [xR.still hs'.mem ml]; exact hrec
    have hdfr' : w'.heap[D]? = some (.deferred (some [])) := by rw [xR.still hs'.mem mD]; exact hdfr
    generalize hw1 : w'.putObj l (.loop { recOf C ps assign body a D .ready none with state := .busy }) = w1
    have q : Same [l, D] w' w1 := by rw [← hw1]; exact .put _ ml
    have hm1 : Mem C.E σ'.h σ'.n ι' S' w1 := hs'.mem.back xR q
    obtain ⟨x1, hmB⟩ := hm1.base σ.n [l, D] [] (Nat.le_trans g.em hmn) hs'.mem.names (xR.rebad hs'.mem q)
    have hl2 : l < w'.heap.size := Nat.lt_of_lt_of_le (xR.bad l ml).2.1 hs'.mem.size
    have ro1 : RoE C ps assign body T a m l D σ.t ai σ.n .busy (baseE C.E ι' S' w1 σ.n [l, D] []) :=
      { ext := x1, n := rfl, mle := hmn, defs := rfl, live := fun b hb => ⟨hm1.slt b hb, fun h => h.2.1 hb⟩
        tmT := fun t v hl => ((roR.tmT t v hl).onto hs'.mem roR.live hmn (Nat.le_refl _)).same q fun b hb => (xR.free hs'.mem hb).1
        tmI := fun t v hl => ((roR.tmI t v hl).onto hs'.mem roR.live (Nat.le_refl _) (Nat.le_refl _)).same q fun b hb => (xR.free hs'.mem hb).1
        rcd := by
          show w1.heap[l]? = _
          rw [← hw1, World.putObj_heap_same hl2]
          rfl
        dfr := by
          show w1.heap[D]? = _
          rw [← hw1, World.putObj_heap_other (fun e => it.ne e.symm)]; exact hdfr'
        ne := it.ne }
    refine ⟨w1, baseE C.E ι' S' w1 σ.n [l, D] [], ?_, rfl, ?_, okR ro1⟩
    · have := run_beginRound (P := CR.P) hrec' rfl
      rw [hw1] at this
      exact this
    · exact ⟨hmB, hs'.tsz, fun t v hl => (hs'.tm t v hl).same q fun b hb => (xR.free hs'.mem hb).1, hs'.def0⟩
  -- the round goes
  have hts : (∀ t v, lk t (putPs ps.toList xs T) = some v → VR S ι σ.n w v (tmps.getD t undef)) ∧ tmps.size = a.tmps.size := by
    have := putPs_sound ps.toList xs (cl.args.map ai.eval).toList T a.tmps (by simpa using kv) (fun p hp => by
      rw [g.tsz]
      simpa using List.all_eq_true.1 hps p hp) (fun t v hl => by
        have := it.tm t v hl
        rw [it.n] at this
        exact this.onto hs.mem it.live (by rw [it.n]; exact Nat.le_refl _) hmn)
    rw [← htm, foldl_zip]
    exact this
  have hsR : Sim CR.E CR.N ⟨putPs ps.toList xs T, σ.h, σ.n⟩ ι S ⟨tmps, []⟩ w := ⟨hmR, by rw [hts.2, g.tsz], hts.1, rfl⟩
  have hgo : Goes CR [.code assign, .beginRound, .code body] ⟨tmps, []⟩ w :=
    at_nil.1 (AWn_sound nR [] [] _ _ (hk CR rfl hRG rfl) (okR roR) (List.suffix_refl _) rfl (by simp [okItems, okItem, g.oka, g.okb]) ι S _ w hsR)
  let b : Frame := { (default : Frame) with fn := C.f, kind := .normal, roundOf := some l }
  have hb0 : Frame.round l C.f tmps assign body .normal = b.atR { tmps := tmps, defers := [] } [.code assign, .beginRound, .code body] := by
    simp [Frame.round, Frame.atR, b]
  have hdn : ∃ j a' w' k', PsiR Ci l all os ki ai o.dst j w' ∧ Steps Ci.P (lone (b.atR ⟨tmps, []⟩ [.code assign, .beginRound, .code body]) (c :: cs) w) (lone (b.atR a' k') (c :: cs) w') ∧ Leave j k' := by
    have := hgo b (c :: cs) rfl rfl rfl
    rw [e1]
    exact this
  obtain ⟨j, a', w', k', ⟨w'', hend, hat⟩, hst, hlv⟩ := hdn
  refine ⟨.returned (.bool j.isNone), w'', hat, ?_⟩
  show StepsIn _ _ _ _
  rw [hb0]
  refine Cx.F_in (C := Ci) (Steps.trans hst (.one ?_))
  match j, hlv with
  | none, hlv =>
    cases hlv
    exact stepR_round_end rfl rfl hend
  | some .ret, ⟨k1, e⟩ =>
    subst e
    exact stepR_round_ret rfl rfl hend
  | some (.exit id), ⟨k1, e, hx⟩ =>
    subst e
    exact stepR_round_exit rfl rfl hx hend

/-- an operation whose guard does not hold -/
theorem AW.no {C : Cx} {n : Nat} {all os : List Oper} {o : Oper} {k : List Item} {σ : St} (v : AV) (hg : guardOf all σ o.guard = some false) (hk : AWn C n all os k (σ.put o.dst (.g v))) : AW C all (o :: os) k σ := by
  intro ok hsuf hok hki ι S a w hs
  have hd := okOps_mem hok (hsuf.subset (List.mem_cons_self ..))
  have hsuf' : os <:+ all := (List.suffix_cons o os).trans hsuf
  refine at_step (σ := σ) ?_ ?_ hs hg hsuf hok
  · intro c' hc' hct
    rw [hg] at hc'; simp only [Option.some.injEq] at hc'
    rw [← hc'] at hct; cases hct
  · intro c' hc' hct
    exact AWn_sound _ _ _ _ _ hk ok hsuf' hok hki ι S _ w (put_false hs hd v)
theorem AW.imp' {C : Cx} {n : Nat} {all os : List Oper} {k : List Item} {σ σ' : St} (h : Imp C.E σ σ') (h' : AWn C n all os k σ') : AW C all os k σ := .imp h (AWn_sound _ _ _ _ _ h')
end Go.Fw
