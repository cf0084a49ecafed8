/-
  Fw4: how a state's account of the memory follows a step of the world.
-/
import Derived.Test.YtddbbfonkgccnaaDoorFw3
set_option linter.unusedVariables false
namespace Go.Fw
section
variable {P : Program} {E : Ent} {N : Nat} {σ : St} {ι : Nat → Loc} {S : Nat → Prop} {a : Act} {w w' : World}

/-- a step that turns no block that was there -/
structure Quiet (w w' : World) : Prop where
  heap : ∀ b, b < w.heap.size → w'.heap[b]? = w.heap[b]?
  size : w.heap.size ≤ w'.heap.size
  os : w'.os = w.os
  tape : w'.tape = w.tape
  output : w'.output = w.output
theorem Quiet.refl (w : World) : Quiet w w := ⟨fun _ _ => rfl, Nat.le_refl _, rfl, rfl, rfl⟩
theorem Quiet.trans {w1 w2 w3 : World} (h : Quiet w1 w2) (k : Quiet w2 w3) : Quiet w1 w3 :=
  ⟨fun b hb => (k.heap b (Nat.lt_of_lt_of_le hb h.size)).trans (h.heap b hb), Nat.le_trans h.size k.size, k.os.trans h.os, k.tape.trans h.tape, k.output.trans h.output⟩
theorem Quiet.drew (w : World) : Quiet w w.drew := ⟨fun _ _ => rfl, Nat.le_refl _, rfl, rfl, rfl⟩
theorem Quiet.alloc (w : World) (o : Obj) : Quiet w (w.alloc o) :=
  ⟨fun b hb => by show (w.heap.push o)[b]? = _; rw [Array.getElem?_push, if_neg (by omega)], by simp, rfl, rfl, rfl⟩

theorem Mem.quiet {h : Heap} {n : Nat} (hm : Mem E h n ι S w) (q : Quiet w w') : Mem E h n ι S w' where
  obj id o hl := ⟨(hm.obj id o hl).1, (hm.obj id o hl).2.mono (fun _ h => h) (fun b hb => q.heap b (hm.slt b hb)) (Nat.le_refl _) (fun _ _ => rfl) (fun b hb => q.heap b (hm.own id o b hl hb).1)⟩
  own id o b hl hb := ⟨Nat.lt_of_lt_of_le (hm.own id o b hl hb).1 q.size, (hm.own id o b hl hb).2⟩
  inj := hm.inj
  slt b hb := Nat.lt_of_lt_of_le (hm.slt b hb) q.size
  ssub := hm.ssub
  ssup := hm.ssup
  keep b hb ho := (q.heap b (Nat.lt_of_lt_of_le hb hm.size)).trans (hm.keep b hb ho)
  size := Nat.le_trans hm.size q.size
  os := q.os.trans hm.os
  tape := q.tape.trans hm.tape
  output := q.output.trans hm.output
  names := hm.names
  same := hm.same
theorem Sim.quiet (hs : Sim E N σ ι S a w) (q : Quiet w w') : Sim E N σ ι S a w' where
  mem := hs.mem.quiet q
  tsz := hs.tsz
  tm t v h := (hs.tm t v h).mono (fun _ h => h) (fun b hb => q.heap b (hs.mem.slt b hb)) (Nat.le_refl _) (fun _ _ => rfl)
  def0 := hs.def0

/-- more blocks are told to be frozen: those that the call made and does not own -/
theorem Mem.more {h : Heap} {n : Nat} (hm : Mem E h n ι S w) {S' : Nat → Prop} (hS : ∀ b, S b → S' b)
    (hn : ∀ b, S' b → S b ∨ (b < w.heap.size ∧ (E.own b ∨ E.w.heap.size ≤ b) ∧ ∀ id o, lk id h = some o → (ι id).b ≠ some b)) : Mem E h n ι S' w where
  obj id o hl := ⟨(hm.obj id o hl).1, (hm.obj id o hl).2.mono hS (fun b hb => rfl) (Nat.le_refl _) (fun _ _ => rfl) (fun b hb => rfl)⟩
  own id o b hl hb := ⟨(hm.own id o b hl hb).1, fun h' => (hn b h').elim (hm.own id o b hl hb).2.1 (fun h'' => h''.2.2 id o hl hb), (hm.own id o b hl hb).2.2⟩
  inj := hm.inj
  slt b hb := (hn b hb).elim (hm.slt b) (·.1)
  ssub b hb := (hn b hb).elim (hm.ssub b) (fun h => .inr h.2.1)
  ssup b hb := hS b (hm.ssup b hb)
  keep := hm.keep
  size := hm.size
  os := hm.os
  tape := hm.tape
  output := hm.output
  names := hm.names
  same := hm.same
theorem Sim.more (hs : Sim E N σ ι S a w) {S' : Nat → Prop} (hS : ∀ b, S b → S' b)
    (hn : ∀ b, S' b → S b ∨ (b < w.heap.size ∧ (E.own b ∨ E.w.heap.size ≤ b) ∧ ∀ id o, lk id σ.h = some o → (ι id).b ≠ some b)) : Sim E N σ ι S' a w where
  mem := hs.mem.more hS hn
  tsz := hs.tsz
  tm t v h := (hs.tm t v h).mono hS (fun b _ => rfl) (Nat.le_refl _) (fun _ _ => rfl)
  def0 := hs.def0

def ext (ι : Nat → Loc) (n : Nat) (l : Loc) : Nat → Loc := fun id => if id = n then l else ι id
theorem ext_old {ι : Nat → Loc} {n : Nat} {l : Loc} {id : Nat} (h : id < n) : ext ι n l id = ι id := by simp [ext, Nat.ne_of_lt h]
theorem ext_new {ι : Nat → Loc} {n : Nat} {l : Loc} : ext ι n l n = l := by simp [ext]

/-- a new name, for a block that is no one's -/
theorem Mem.name {h : Heap} {n : Nat} (hm : Mem E h n ι S w) {l : Loc} {o : AO} (hb : ∀ b, l.b = some b → b < w.heap.size ∧ ¬ S b ∧ (E.own b ∨ E.w.heap.size ≤ b) ∧ ∀ id o, lk id h = some o → (ι id).b ≠ some b)
    (ho : OR S (ext ι n l) (n + 1) w l o) : Mem E ((n, o) :: h) (n + 1) (ext ι n l) S w where
  obj id o' hl := by
    rw [lk_cons] at hl
    split at hl
    · rename_i e; subst e
      simp only [Option.some.injEq] at hl; subst hl
      rw [ext_new]; exact ⟨Nat.lt_succ_self _, ho⟩
    · have := hm.obj id o' hl
      rw [ext_old this.1]
      exact ⟨Nat.lt_succ_of_lt this.1, this.2.mono (fun _ h => h) (fun _ _ => rfl) (Nat.le_succ _) (fun id hid => ext_old hid) (fun _ _ => rfl)⟩
  own id o' b hl hb' := by
    rw [lk_cons] at hl
    split at hl
    · rename_i e; subst e
      rw [ext_new] at hb'
      exact ⟨(hb b hb').1, (hb b hb').2.1, (hb b hb').2.2.1⟩
    · rw [ext_old (hm.obj id o' hl).1] at hb'
      exact hm.own id o' b hl hb'
  inj id id' o1 o2 b h1 h2 b1 b2 := by
    rw [lk_cons] at h1 h2
    split at h1 <;> split at h2
    · rename_i e1 e2; rw [e1, e2]
    · rename_i e1 e2
      rw [e1, ext_new] at b1
      rw [ext_old (hm.obj id' o2 h2).1] at b2
      exact absurd b2 ((hb b b1).2.2.2 id' o2 h2)
    · rename_i e1 e2
      rw [e2, ext_new] at b2
      rw [ext_old (hm.obj id o1 h1).1] at b1
      exact absurd b1 ((hb b b2).2.2.2 id o1 h1)
    · rw [ext_old (hm.obj id' o2 h2).1] at b2
      rw [ext_old (hm.obj id o1 h1).1] at b1
      exact hm.inj id id' o1 o2 b h1 h2 b1 b2
  slt := hm.slt
  ssub := hm.ssub
  ssup := hm.ssup
  keep := hm.keep
  size := hm.size
  os := hm.os
  tape := hm.tape
  output := hm.output
  names := Nat.le_succ_of_le hm.names
  same id hid := by rw [ext_old (Nat.lt_of_lt_of_le hid hm.names)]; exact hm.same id hid
theorem Sim.name (hs : Sim E N σ ι S a w) {l : Loc} {o : AO} (hb : ∀ b, l.b = some b → b < w.heap.size ∧ ¬ S b ∧ (E.own b ∨ E.w.heap.size ≤ b) ∧ ∀ id o, lk id σ.h = some o → (ι id).b ≠ some b)
    (ho : OR S (ext ι σ.n l) (σ.n + 1) w l o) : Sim E N ⟨σ.t, (σ.n, o) :: σ.h, σ.n + 1⟩ (ext ι σ.n l) S a w where
  mem := hs.mem.name hb ho
  tsz := hs.tsz
  tm t v h := (hs.tm t v h).mono (fun _ h => h) (fun b _ => rfl) (Nat.le_succ _) (fun id hid => ext_old hid)
  def0 := hs.def0

/-- a block that was just made, named -/
theorem Sim.alloc (hs : Sim E N σ ι S a w) {ob : Obj} {cap : Nat} {o : AO} (ho : OR S (ext ι σ.n ⟨some w.heap.size, cap⟩) (σ.n + 1) (w.alloc ob) ⟨some w.heap.size, cap⟩ o) :
    Sim E N ⟨σ.t, (σ.n, o) :: σ.h, σ.n + 1⟩ (ext ι σ.n ⟨some w.heap.size, cap⟩) S a (w.alloc ob) := by
  refine (hs.quiet (Quiet.alloc w ob)).name ?_ ho
  intro b hb
  simp only [Option.some.injEq] at hb; subst hb
  refine ⟨by simp, fun h => absurd (hs.mem.slt _ h) (by omega), .inr hs.mem.size, fun id o' hl e => absurd (hs.mem.own id o' _ hl e).1 (by omega)⟩
theorem heap_new (w : World) (ob : Obj) : (w.alloc ob).heap[w.heap.size]? = some ob := heap_alloc_new w ob

/-- an object's name goes -/
theorem Mem.del {h : Heap} {n : Nat} (hm : Mem E h n ι S w) (id : Nat) : Mem E (hdel id h) n ι S w where
  obj i o hl := by rw [lk_hdel] at hl; split at hl; · cases hl
                   · exact hm.obj i o hl
  own i o b hl := by rw [lk_hdel] at hl; split at hl; · cases hl
                     · exact hm.own i o b hl
  inj i i' o o' b h1 h2 := by
    rw [lk_hdel] at h1 h2
    split at h1; · cases h1
    · split at h2; · cases h2
      · exact hm.inj i i' o o' b h1 h2
  slt := hm.slt
  ssub := hm.ssub
  ssup := hm.ssup
  keep := hm.keep
  size := hm.size
  os := hm.os
  tape := hm.tape
  output := hm.output
  names := hm.names
  same := hm.same
theorem Sim.del (hs : Sim E N σ ι S a w) (id : Nat) : Sim E N ⟨σ.t, hdel id σ.h, σ.n⟩ ι S a w where
  mem := hs.mem.del id
  tsz := hs.tsz
  tm := hs.tm
  def0 := hs.def0

/-- an object is written: its block alone turns -/
structure Only (w w' : World) (b0 : Nat) : Prop where
  heap : ∀ b, b ≠ b0 → w'.heap[b]? = w.heap[b]?
  size : w'.heap.size = w.heap.size
  os : w'.os = w.os
  tape : w'.tape = w.tape
  output : w'.output = w.output
theorem Mem.put {h : Heap} {n : Nat} (hm : Mem E h n ι S w) {id b0 : Nat} {o o' : AO} (hl : lk id h = some o) (hb : (ι id).b = some b0) (hq : Only w w' b0) (ho : OR S ι n w' (ι id) o') :
    Mem E (hset id o' h) n ι S w' where
  obj i oi hi := by
    rw [lk_hset] at hi
    split at hi
    · rename_i e; subst e
      rw [hl] at hi; simp at hi; subst hi
      exact ⟨(hm.obj i o hl).1, ho⟩
    · rename_i hne
      refine ⟨(hm.obj i oi hi).1, (hm.obj i oi hi).2.mono (fun _ h => h) (fun b hb' => hq.heap b fun e => ?_) (Nat.le_refl _) (fun _ _ => rfl) (fun b hb' => hq.heap b fun e => ?_)⟩
      · subst e; exact (hm.own id o b hl hb).2.1 hb'
      · subst e; exact hne (hm.inj i id oi o b hi hl hb' hb)
  own i oi b hi hb' := by
    have : ∃ o'', lk i h = some o'' := by
      rw [lk_hset] at hi
      split at hi
      · rename_i e; subst e; exact ⟨o, hl⟩
      · exact ⟨oi, hi⟩
    obtain ⟨o'', h2⟩ := this
    rw [hq.size]; exact hm.own i o'' b h2 hb'
  inj i i' o1 o2 b h1 h2 b1 b2 := by
    have key : ∀ j oj, lk j (hset id o' h) = some oj → ∃ o'', lk j h = some o'' := by
      intro j oj hj
      rw [lk_hset] at hj
      split at hj
      · rename_i e; subst e; exact ⟨o, hl⟩
      · exact ⟨oj, hj⟩
    obtain ⟨_, k1⟩ := key i o1 h1
    obtain ⟨_, k2⟩ := key i' o2 h2
    exact hm.inj i i' _ _ b k1 k2 b1 b2
  slt b hb' := by rw [hq.size]; exact hm.slt b hb'
  ssub := hm.ssub
  ssup := hm.ssup
  keep b hb' hno := by
    rw [hq.heap b]
    · exact hm.keep b hb' hno
    · intro e; subst e
      rcases (hm.own id o b hl hb).2.2 with h' | h'
      · exact hno h'
      · omega
  size := by rw [hq.size]; exact hm.size
  os := hq.os.trans hm.os
  tape := hq.tape.trans hm.tape
  output := hq.output.trans hm.output
  names := hm.names
  same := hm.same
theorem Sim.upd (hs : Sim E N σ ι S a w) {id b0 : Nat} {o o' : AO} (hl : lk id σ.h = some o) (hb : (ι id).b = some b0) (hq : Only w w' b0) (ho : OR S ι σ.n w' (ι id) o') :
    Sim E N ⟨σ.t, hset id o' σ.h, σ.n⟩ ι S a w' where
  mem := hs.mem.put hl hb hq ho
  tsz := hs.tsz
  tm t v h := (hs.tm t v h).mono (fun _ h => h) (fun b hb' => hq.heap b fun e => by subst e; exact (hs.mem.own id o b hl hb).2.1 hb') (Nat.le_refl _) (fun _ _ => rfl)
  def0 := hs.def0

theorem Mem.congr {h h' : Heap} {n : Nat} (hm : Mem E h n ι S w) (e : ∀ m, lk m h' = lk m h) : Mem E h' n ι S w where
  obj id o hl := hm.obj id o (by rw [← e]; exact hl)
  own id o b hl := hm.own id o b (by rw [← e]; exact hl)
  inj id id' o o' b h1 h2 := hm.inj id id' o o' b (by rw [← e]; exact h1) (by rw [← e]; exact h2)
  slt := hm.slt
  ssub := hm.ssub
  ssup := hm.ssup
  keep := hm.keep
  size := hm.size
  os := hm.os
  tape := hm.tape
  output := hm.output
  names := hm.names
  same := hm.same
theorem Sim.congr {h' : Heap} (hs : Sim E N σ ι S a w) (e : ∀ m, lk m h' = lk m σ.h) : Sim E N ⟨σ.t, h', σ.n⟩ ι S a w where
  mem := hs.mem.congr e
  tsz := hs.tsz
  tm := hs.tm
  def0 := hs.def0

/-- a slot is written -/
theorem Sim.put (hs : Sim E N σ ι S a w) {d : Option Nat} {v : AV} {y : Value} (hd : ∀ d', d = some d' → d' < N) (hv : VR S ι σ.n w v y) : Sim E N (σ.put d v) ι S (a.put d y) w := by
  cases d with
  | none => exact hs
  | some d =>
    refine ⟨hs.mem, by simpa [Act.put] using hs.tsz, ?_, hs.def0⟩
    intro t v' hl
    show VR S ι σ.n w v' _
    simp only [St.put] at hl
    rw [lk_cons] at hl
    have hlt := hd d rfl
    split at hl
    · rename_i e; subst e
      simp only [Option.some.injEq] at hl; subst hl
      have : t < a.tmps.size := by rw [hs.tsz]; exact hlt
      simpa [Act.put, Array.getD, this] using hv
    · rename_i hne
      have h := hs.tm t v' hl
      have : (a.tmps.setIfInBounds d y).getD t undef = a.tmps.getD t undef := by
        simp only [Array.getD_eq_getD_getElem?, Array.getElem?_setIfInBounds, if_neg (fun e => hne (Eq.symm e) : ¬ d = t)]
      simpa [Act.put, this] using h

/-- what an operation comes to -/
def Good (P : Program) (E : Ent) (N : Nat) (a : Act) (w : World) (s : Sem Next) (v : AV) (σ' : St) : Prop :=
  ∃ y w' ι' S', (s.run P w = .ok (.value y) w' ∨ (s.run P w = .ok .skip w' ∧ y = undef)) ∧ Sim E N σ' ι' S' a w' ∧ VR S' ι' σ'.n w' v y
theorem Good.same {s : Sem Next} {v : AV} {y : Value} (hs : Sim E N σ ι S a w) (hr : s.run P w = .ok (.value y) w) (hv : VR S ι σ.n w v y) : Good P E N a w s v σ :=
  ⟨y, w, ι, S, .inl hr, hs, hv⟩
/-- what an operation comes to that leaves the world as it is -/
def GoodS (P : Program) (σ : St) (ι : Nat → Loc) (S : Nat → Prop) (w : World) (s : Sem Next) (v : AV) (σ' : St) : Prop :=
  σ' = σ ∧ ∃ y, s.run P w = .ok (.value y) w ∧ VR S ι σ.n w v y
theorem GoodS.same {s : Sem Next} {v : AV} {y : Value} (hs : Sim E N σ ι S a w) (hr : s.run P w = .ok (.value y) w) (hv : VR S ι σ.n w v y) : GoodS P σ ι S w s v σ := ⟨rfl, y, hr, hv⟩
theorem GoodS.good {σ' : St} {s : Sem Next} {v : AV} (hs : Sim E N σ ι S a w) (h : GoodS P σ ι S w s v σ') : Good P E N a w s v σ' := by
  obtain ⟨rfl, y, hr, hv⟩ := h
  exact .same hs hr hv
end
end Go.Fw
