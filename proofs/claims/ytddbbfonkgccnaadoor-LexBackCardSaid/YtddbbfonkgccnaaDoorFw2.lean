/-
  Fw2: what the abstract values and states say of the model's values and worlds; how they stay true as the world goes on.
-/
import Derived.Test.YtddbbfonkgccnaaDoorFw1
namespace Go.Fw

/-- the blocks of owned objects, by name; a nil row has none -/
structure Loc where
  b : Option Nat
  cap : Nat

mutual
/-- a frozen value: what it leads to lies in blocks of S -/
def FR (S : Nat → Prop) (w : World) : FV → Value → Prop
  | .v x, y => y = x ∧ x.oneCell' = true
  | .agg xs, y => ∃ ys, y = .agg ys ∧ FRs S w xs ys.toList ∧ ∀ z ∈ ys.toList, z.oneCell' = true
  | .tup xs, y => ∃ ys, y = .tuple ys ∧ FRs S w xs ys.toList
  | .sl sz xs, y => (xs = [] ∧ ∃ a c, y = .slice a 0 c) ∨
      ∃ b o c cs T fz, y = .slice (some ⟨b, o, none⟩) xs.length c ∧ S b ∧ w.heap[b]? = some (.cells cs T fz) ∧ FRrow S w sz xs (cs.toList.drop o) ∧ xs.length ≤ c
  | .p x off, y => ∃ b o cs T fz z, y = .pointer (some ⟨b, o + off, none⟩) ∧ S b ∧ w.heap[b]? = some (.cells cs T fz) ∧ FR S w x z ∧
      (cs.toList.drop o).take z.cells.size = z.cells.toList ∧ ∀ c ∈ z.cells.toList, c.oneCell' = true
  | .m kv, y => ∃ b es clk, y = .map (some b) ∧ S b ∧ w.heap[b]? = some (.map es clk) ∧ FRm S w kv es.toList
  | .clo f first cap, y => ∃ fs cs, y = .func (.func f) fs cs ∧ FRs S w first fs.toList ∧ FRs S w cap cs.toList
def FRs (S : Nat → Prop) (w : World) : List FV → List Value → Prop
  | [], ys => ys = []
  | x :: xs, ys => ∃ y ys', ys = y :: ys' ∧ FR S w x y ∧ FRs S w xs ys'
def FRrow (S : Nat → Prop) (w : World) (sz : Nat) : List FV → List Value → Prop
  | [], _ => True
  | x :: xs, ys => (∃ y, FR S w x y ∧ y.cells.toList = ys.take sz ∧ y.cells.size = sz ∧ ∀ c ∈ y.cells.toList, c.oneCell' = true) ∧ FRrow S w sz xs (ys.drop sz)
def FRm (S : Nat → Prop) (w : World) : List (Value × FV) → List MapEntry → Prop
  | [], es => es = []
  | (k, x) :: kv, es => ∃ e es', es = e :: es' ∧ e.key = k ∧ FR S w x e.val ∧ FRm S w kv es'
end

mutual
theorem FR.mono {S S' : Nat → Prop} {w w' : World} (hS : ∀ b, S b → S' b) (hw : ∀ b, S b → w'.heap[b]? = w.heap[b]?) : ∀ {x : FV} {y : Value}, FR S w x y → FR S' w' x y
  | .v _, _, h => by simpa only [FR] using h
  | .agg xs, _, h => by simp only [FR] at h ⊢; obtain ⟨ys, e, h1, h2⟩ := h; exact ⟨ys, e, FRs.mono hS hw h1, h2⟩
  | .tup xs, _, h => by simp only [FR] at h ⊢; obtain ⟨ys, e, h1⟩ := h; exact ⟨ys, e, FRs.mono hS hw h1⟩
  | .sl sz xs, _, h => by
    simp only [FR] at h ⊢
    rcases h with h | ⟨b, o, c, cs, T, fz, e, hb, hh, hr, hle⟩
    · exact .inl h
    · exact .inr ⟨b, o, c, cs, T, fz, e, hS b hb, by rw [hw b hb]; exact hh, FRrow.mono hS hw hr, hle⟩
  | .p x off, _, h => by
    simp only [FR] at h ⊢
    obtain ⟨b, o, cs, T, fz, z, e, hb, hh, hx, ht⟩ := h
    exact ⟨b, o, cs, T, fz, z, e, hS b hb, by rw [hw b hb]; exact hh, FR.mono hS hw hx, ht⟩
  | .m kv, _, h => by
    simp only [FR] at h ⊢
    obtain ⟨b, es, clk, e, hb, hh, hm⟩ := h
    exact ⟨b, es, clk, e, hS b hb, by rw [hw b hb]; exact hh, FRm.mono hS hw hm⟩
  | .clo f a c, _, h => by
    simp only [FR] at h ⊢
    obtain ⟨fs, cs, e, h1, h2⟩ := h
    exact ⟨fs, cs, e, FRs.mono hS hw h1, FRs.mono hS hw h2⟩
theorem FRs.mono {S S' : Nat → Prop} {w w' : World} (hS : ∀ b, S b → S' b) (hw : ∀ b, S b → w'.heap[b]? = w.heap[b]?) : ∀ {xs : List FV} {ys : List Value}, FRs S w xs ys → FRs S' w' xs ys
  | [], _, h => by simpa only [FRs] using h
  | x :: xs, _, h => by
    simp only [FRs] at h ⊢
    obtain ⟨y, ys', e, h1, h2⟩ := h
    exact ⟨y, ys', e, FR.mono hS hw h1, FRs.mono hS hw h2⟩
theorem FRrow.mono {S S' : Nat → Prop} {w w' : World} (hS : ∀ b, S b → S' b) (hw : ∀ b, S b → w'.heap[b]? = w.heap[b]?) {sz : Nat} : ∀ {xs : List FV} {ys : List Value}, FRrow S w sz xs ys → FRrow S' w' sz xs ys
  | [], _, _ => by simp only [FRrow]
  | x :: xs, _, h => by
    simp only [FRrow] at h ⊢
    obtain ⟨⟨y, h1, h2, h3⟩, h4⟩ := h
    exact ⟨⟨y, FR.mono hS hw h1, h2, h3⟩, FRrow.mono hS hw h4⟩
theorem FRm.mono {S S' : Nat → Prop} {w w' : World} (hS : ∀ b, S b → S' b) (hw : ∀ b, S b → w'.heap[b]? = w.heap[b]?) : ∀ {kv : List (Value × FV)} {es : List MapEntry}, FRm S w kv es → FRm S' w' kv es
  | [], _, h => by simpa only [FRm] using h
  | (k, x) :: kv, _, h => by
    simp only [FRm] at h ⊢
    obtain ⟨e, es', e1, e2, h1, h2⟩ := h
    exact ⟨e, es', e1, e2, FR.mono hS hw h1, FRm.mono hS hw h2⟩
end

mutual
def VR (S : Nat → Prop) (ι : Nat → Loc) (n : Nat) (w : World) : AV → Value → Prop
  | .f x, y => FR S w x y
  | .agg xs, y => ∃ ys, y = .agg ys ∧ VRs S ι n w xs ys.toList ∧ ∀ z ∈ ys.toList, z.oneCell' = true
  | .tup xs, y => ∃ ys, y = .tuple ys ∧ VRs S ι n w xs ys.toList
  | .ptr id off, y => id < n ∧ ∃ b, (ι id).b = some b ∧ y = .pointer (some ⟨b, off, none⟩)
  | .rp id sz i off, y => id < n ∧ ∃ b, (ι id).b = some b ∧ y = .pointer (some ⟨b, i * sz + off, none⟩)
  | .sl id sz off len, y => id < n ∧ (((ι id).b = none ∧ off = 0 ∧ len = 0 ∧ (ι id).cap = 0 ∧ y = .slice none 0 0) ∨
      ∃ b o, (ι id).b = some b ∧ off + len ≤ (ι id).cap ∧ (off < (ι id).cap → o = off * sz) ∧ (off = 0 → o = 0) ∧ y = .slice (some ⟨b, o, none⟩) len ((ι id).cap - off))
  | .mp id, y => id < n ∧ ∃ b, (ι id).b = some b ∧ y = .map (some b)
  | .it id, y => id < n ∧ ∃ b, (ι id).b = some b ∧ y = .pointer (some ⟨b, 0, none⟩)
  | .clo f first cap, y => ∃ fs cs, y = .func (.func f) fs cs ∧ VRs S ι n w first fs.toList ∧ VRs S ι n w cap cs.toList
  | .g _, y => y = undef
def VRs (S : Nat → Prop) (ι : Nat → Loc) (n : Nat) (w : World) : List AV → List Value → Prop
  | [], ys => ys = []
  | x :: xs, ys => ∃ y ys', ys = y :: ys' ∧ VR S ι n w x y ∧ VRs S ι n w xs ys'
end

mutual
theorem VR.mono {S S' : Nat → Prop} {ι ι' : Nat → Loc} {n n' : Nat} {w w' : World} (hS : ∀ b, S b → S' b) (hw : ∀ b, S b → w'.heap[b]? = w.heap[b]?) (hn : n ≤ n') (hι : ∀ id, id < n → ι' id = ι id) :
    ∀ {x : AV} {y : Value}, VR S ι n w x y → VR S' ι' n' w' x y
  | .f _, _, h => by simp only [VR] at h ⊢; exact FR.mono hS hw h
  | .agg xs, _, h => by simp only [VR] at h ⊢; obtain ⟨ys, e, h1, h2⟩ := h; exact ⟨ys, e, VRs.mono hS hw hn hι h1, h2⟩
  | .tup xs, _, h => by simp only [VR] at h ⊢; obtain ⟨ys, e, h1⟩ := h; exact ⟨ys, e, VRs.mono hS hw hn hι h1⟩
  | .ptr id off, _, h => by simp only [VR] at h ⊢; rw [hι id h.1]; exact ⟨Nat.lt_of_lt_of_le h.1 hn, h.2⟩
  | .rp id sz i off, _, h => by simp only [VR] at h ⊢; rw [hι id h.1]; exact ⟨Nat.lt_of_lt_of_le h.1 hn, h.2⟩
  | .sl id sz off len, _, h => by simp only [VR] at h ⊢; rw [hι id h.1]; exact ⟨Nat.lt_of_lt_of_le h.1 hn, h.2⟩
  | .mp id, _, h => by simp only [VR] at h ⊢; rw [hι id h.1]; exact ⟨Nat.lt_of_lt_of_le h.1 hn, h.2⟩
  | .it id, _, h => by simp only [VR] at h ⊢; rw [hι id h.1]; exact ⟨Nat.lt_of_lt_of_le h.1 hn, h.2⟩
  | .clo f a c, _, h => by
    simp only [VR] at h ⊢
    obtain ⟨fs, cs, e, h1, h2⟩ := h
    exact ⟨fs, cs, e, VRs.mono hS hw hn hι h1, VRs.mono hS hw hn hι h2⟩
  | .g _, _, h => by simp only [VR] at h ⊢; exact h
theorem VRs.mono {S S' : Nat → Prop} {ι ι' : Nat → Loc} {n n' : Nat} {w w' : World} (hS : ∀ b, S b → S' b) (hw : ∀ b, S b → w'.heap[b]? = w.heap[b]?) (hn : n ≤ n') (hι : ∀ id, id < n → ι' id = ι id) :
    ∀ {xs : List AV} {ys : List Value}, VRs S ι n w xs ys → VRs S' ι' n' w' xs ys
  | [], _, h => by simpa only [VRs] using h
  | x :: xs, _, h => by
    simp only [VRs] at h ⊢
    obtain ⟨y, ys', e, h1, h2⟩ := h
    exact ⟨y, ys', e, VR.mono hS hw hn hι h1, VRs.mono hS hw hn hι h2⟩
end

/-- an owned object, as its block has it -/
def OR (S : Nat → Prop) (ι : Nat → Loc) (n : Nat) (w : World) (l : Loc) : AO → Prop
  | .cells T cs => ∃ b vs, l.b = some b ∧ w.heap[b]? = some (.cells vs T (0, 0)) ∧ VRs S ι n w cs vs.toList ∧ ∀ z ∈ vs.toList, z.oneCell' = true
  | .row T sz xs => (l.b = none ∧ l.cap = 0 ∧ xs = []) ∨
      ∃ b vs, l.b = some b ∧ w.heap[b]? = some (.cells vs T (0, 0)) ∧ xs.length ≤ l.cap ∧ l.cap ≤ maxLen ∧ vs.size = l.cap * sz ∧ FRrow S w sz xs vs.toList
  | .map kv => ∃ b es clk, l.b = some b ∧ w.heap[b]? = some (.map es clk) ∧ FRm S w kv es.toList
  | .siter s pos => ∃ b, l.b = some b ∧ w.heap[b]? = some (.stringIter ⟨⟨s⟩⟩ pos)

theorem OR.mono {S S' : Nat → Prop} {ι ι' : Nat → Loc} {n n' : Nat} {w w' : World} (hS : ∀ b, S b → S' b) (hw : ∀ b, S b → w'.heap[b]? = w.heap[b]?) (hn : n ≤ n') (hι : ∀ id, id < n → ι' id = ι id)
    {l : Loc} {o : AO} (hl : ∀ b, l.b = some b → w'.heap[b]? = w.heap[b]?) (h : OR S ι n w l o) : OR S' ι' n' w' l o := by
  cases o with
  | cells T cs => obtain ⟨b, vs, e, hb, h1, h2⟩ := h; exact ⟨b, vs, e, by rw [hl b e]; exact hb, VRs.mono hS hw hn hι h1, h2⟩
  | row T sz xs =>
    rcases h with h | ⟨b, vs, e, hb, h1, h2, h3, h4⟩
    · exact .inl h
    · exact .inr ⟨b, vs, e, by rw [hl b e]; exact hb, h1, h2, h3, FRrow.mono hS hw h4⟩
  | map kv => obtain ⟨b, es, clk, e, hb, h1⟩ := h; exact ⟨b, es, clk, e, by rw [hl b e]; exact hb, FRm.mono hS hw h1⟩
  | siter s pos => obtain ⟨b, e, hb⟩ := h; exact ⟨b, e, by rw [hl b e]; exact hb⟩

/-- where the call began: the world, the names that came in with their blocks, what is frozen and what is owned -/
structure Ent where
  w : World
  ι : Nat → Loc
  n : Nat
  own : Nat → Prop
  S : Nat → Prop
  defs : List Deferred

/-- memory: objects and frozen blocks, and how it stands to where the call began -/
structure Mem (E : Ent) (h : Heap) (n : Nat) (ι : Nat → Loc) (S : Nat → Prop) (w : World) : Prop where
  obj : ∀ id o, lk id h = some o → id < n ∧ OR S ι n w (ι id) o
  own : ∀ id o b, lk id h = some o → (ι id).b = some b → b < w.heap.size ∧ ¬ S b ∧ (E.own b ∨ E.w.heap.size ≤ b)
  inj : ∀ id id' o o' b, lk id h = some o → lk id' h = some o' → (ι id).b = some b → (ι id').b = some b → id = id'
  slt : ∀ b, S b → b < w.heap.size
  ssub : ∀ b, S b → E.S b ∨ (E.own b ∨ E.w.heap.size ≤ b)
  ssup : ∀ b, E.S b → S b
  keep : ∀ b, b < E.w.heap.size → ¬ E.own b → w.heap[b]? = E.w.heap[b]?
  size : E.w.heap.size ≤ w.heap.size
  os : w.os = E.w.os
  tape : w.tape = E.w.tape
  output : w.output = E.w.output
  names : E.n ≤ n
  same : ∀ id, id < E.n → ι id = E.ι id

structure Sim (E : Ent) (N : Nat) (σ : St) (ι : Nat → Loc) (S : Nat → Prop) (a : Act) (w : World) : Prop where
  mem : Mem E σ.h σ.n ι S w
  tsz : a.tmps.size = N
  tm : ∀ t v, lk t σ.t = some v → VR S ι σ.n w v (a.tmps.getD t undef)
  def0 : a.defers = E.defs

end Go.Fw
