/-
  Fw3: an operation in the abstract machine is one of the model's.
-/
import Derived.Test.YtddbbfonkgccnaaDoorFw2
namespace Go.Fw

theorem tk_spec {P : Program} {t : TypeId} {k : TK} (h : tk P t = some k) : ∃ i d z, P.info? t = some i ∧ P.underlying t = some d ∧ i.zero = some z ∧
    k.sz = i.size ∧ k.bytes = i.bytes ∧ k.zero = zFV z ∧ k.desc = tdOf P d ∧ z.cells.size = i.size ∧ (∀ c ∈ z.cells.toList, c.oneCell' = true) ∧
    ((k.agg = true ∧ (∃ cs, z = .agg cs) ∧ isAggD d = true) ∨ (k.agg = false ∧ z.oneCell' = true ∧ isAggD d = false ∧ i.size = 1)) := by
  unfold tk at h
  split at h
  · rename_i i d hi hd
    split at h
    · rename_i z hz
      split at h
      · rename_i hc
        simp only [Option.some.injEq] at h
        subst h
        simp only [Bool.and_eq_true, beq_iff_eq, Array.all_eq_true'] at hc
        obtain ⟨⟨h1, h2⟩, h3⟩ := hc
        refine ⟨i, d, z, hi, hd, hz, rfl, rfl, rfl, rfl, h1, fun c hc => h2 c (Array.mem_toList_iff.1 hc), ?_⟩
        cases z <;> simp only [zKind, Bool.not_eq_true', Bool.false_eq_true] at h3 <;> first
          | exact .inr ⟨h3, rfl, h3, h1.symm⟩
          | exact .inl ⟨h3, ⟨_, rfl⟩, h3⟩
      · cases h
    · cases h
  · cases h

theorem zFV_sound (S : Nat → Prop) (w : World) : ∀ (z : Value), (∀ c ∈ z.cells.toList, c.oneCell' = true) → FR S w (zFV z) z
  | .agg cs, h => by
    simp only [zFV, FR]
    refine ⟨cs, rfl, ?_, h⟩
    have h' : ∀ c ∈ cs.toList, c.oneCell' = true := h
    clear h
    generalize cs.toList = l at h'
    induction l with
    | nil => simp [FRs]
    | cons c l ih =>
      simp only [List.map_cons, FRs]
      exact ⟨c, l, rfl, ⟨rfl, h' c (by simp)⟩, ih fun c hc => h' c (by simp [hc])⟩
  | .bool _, h => by simpa [zFV, FR] using h _ (by simp [Value.cells])
  | .int .., h => by simpa [zFV, FR] using h _ (by simp [Value.cells])
  | .float .., h => by simpa [zFV, FR] using h _ (by simp [Value.cells])
  | .complex .., h => by simpa [zFV, FR] using h _ (by simp [Value.cells])
  | .string _, h => by simpa [zFV, FR] using h _ (by simp [Value.cells])
  | .pointer _, h => by simpa [zFV, FR] using h _ (by simp [Value.cells])
  | .slice .., h => by simpa [zFV, FR] using h _ (by simp [Value.cells])
  | .map _, h => by simpa [zFV, FR] using h _ (by simp [Value.cells])
  | .chan _, h => by simpa [zFV, FR] using h _ (by simp [Value.cells])
  | .func .., h => by simpa [zFV, FR] using h _ (by simp [Value.cells])
  | .nilFunc, h => by simpa [zFV, FR] using h _ (by simp [Value.cells])
  | .iface .., h => by simpa [zFV, FR] using h _ (by simp [Value.cells])
  | .nilIface, h => by simpa [zFV, FR] using h _ (by simp [Value.cells])
  | .tuple xs, h => by have := h (.tuple xs) (by simp [Value.cells]); simp [Value.oneCell'] at this

/- the cells of a frozen value -/
theorem FR.one_or {S : Nat → Prop} {w : World} {x : FV} {y : Value} (h : FR S w x y) :
    (∃ xs ys, x = .agg xs ∧ y = .agg ys ∧ FRs S w xs ys.toList ∧ ∀ z ∈ ys.toList, z.oneCell' = true) ∨ (∃ xs ys, x = .tup xs ∧ y = .tuple ys) ∨ (x.cells = [x] ∧ y.cells = #[y] ∧ y.oneCell' = true) := by
  cases x with
  | v x => simp only [FR] at h; obtain ⟨rfl, h1⟩ := h; exact .inr (.inr ⟨rfl, by cases y <;> first | rfl | simp [Value.oneCell'] at h1, h1⟩)
  | agg xs => simp only [FR] at h; obtain ⟨ys, e, h1, h2⟩ := h; exact .inl ⟨xs, ys, rfl, e, h1, h2⟩
  | tup xs => simp only [FR] at h; obtain ⟨ys, e, h1⟩ := h; exact .inr (.inl ⟨xs, ys, rfl, e⟩)
  | sl sz xs =>
    simp only [FR] at h
    rcases h with ⟨_, a, c, rfl⟩ | ⟨b, o, c, cs, T, fz, rfl, _⟩ <;> exact .inr (.inr ⟨rfl, rfl, rfl⟩)
  | p x off => simp only [FR] at h; obtain ⟨b, o, cs, T, fz, z, rfl, _⟩ := h; exact .inr (.inr ⟨rfl, rfl, rfl⟩)
  | m kv => simp only [FR] at h; obtain ⟨b, es, clk, rfl, _⟩ := h; exact .inr (.inr ⟨rfl, rfl, rfl⟩)
  | clo f a c => simp only [FR] at h; obtain ⟨fs, cs, rfl, _⟩ := h; exact .inr (.inr ⟨rfl, rfl, rfl⟩)

theorem FRs.length {S : Nat → Prop} {w : World} : ∀ {xs : List FV} {ys : List Value}, FRs S w xs ys → ys.length = xs.length
  | [], _, h => by simp only [FRs] at h; simp [h]
  | x :: xs, _, h => by
    simp only [FRs] at h
    obtain ⟨y, ys', rfl, _, h2⟩ := h
    simp [FRs.length h2]
theorem VRs.length {S : Nat → Prop} {ι : Nat → Loc} {n : Nat} {w : World} : ∀ {xs : List AV} {ys : List Value}, VRs S ι n w xs ys → ys.length = xs.length
  | [], _, h => by simp only [VRs] at h; simp [h]
  | x :: xs, _, h => by
    simp only [VRs] at h
    obtain ⟨y, ys', rfl, _, h2⟩ := h
    simp [VRs.length h2]
theorem VRs.get {S : Nat → Prop} {ι : Nat → Loc} {n : Nat} {w : World} : ∀ {xs : List AV} {ys : List Value}, VRs S ι n w xs ys → ∀ {i : Nat} {x : AV}, xs[i]? = some x → ∃ y, ys[i]? = some y ∧ VR S ι n w x y
  | [], _, _, i, x, h => by simp at h
  | x :: xs, _, h, i, z, hz => by
    simp only [VRs] at h
    obtain ⟨y, ys', rfl, h1, h2⟩ := h
    cases i with
    | zero => simp at hz; subst hz; exact ⟨y, by simp, h1⟩
    | succ i => simpa using VRs.get h2 (i := i) (by simpa using hz)
theorem FRs.get {S : Nat → Prop} {w : World} : ∀ {xs : List FV} {ys : List Value}, FRs S w xs ys → ∀ {i : Nat} {x : FV}, xs[i]? = some x → ∃ y, ys[i]? = some y ∧ FR S w x y
  | [], _, _, i, x, h => by simp at h
  | x :: xs, _, h, i, z, hz => by
    simp only [FRs] at h
    obtain ⟨y, ys', rfl, h1, h2⟩ := h
    cases i with
    | zero => simp at hz; subst hz; exact ⟨y, by simp, h1⟩
    | succ i => simpa using FRs.get h2 (i := i) (by simpa using hz)
theorem VRs_map_f {S : Nat → Prop} {ι : Nat → Loc} {n : Nat} {w : World} : ∀ {xs : List FV} {ys : List Value}, VRs S ι n w (xs.map .f) ys ↔ FRs S w xs ys
  | [], _ => by simp [VRs, FRs]
  | x :: xs, _ => by
    simp only [List.map_cons, VRs, FRs]
    constructor
    · rintro ⟨y, ys', rfl, h1, h2⟩; exact ⟨y, ys', rfl, by simpa [VR] using h1, VRs_map_f.1 h2⟩
    · rintro ⟨y, ys', rfl, h1, h2⟩; exact ⟨y, ys', rfl, by simpa [VR] using h1, VRs_map_f.2 h2⟩
theorem VRs.drop {S : Nat → Prop} {ι : Nat → Loc} {n : Nat} {w : World} : ∀ {xs : List AV} {ys : List Value} (k : Nat), VRs S ι n w xs ys → VRs S ι n w (xs.drop k) (ys.drop k)
  | _, _, 0, h => by simpa using h
  | [], _, k + 1, h => by simp only [VRs] at h; subst h; simp [VRs]
  | x :: xs, _, k + 1, h => by
    simp only [VRs] at h
    obtain ⟨y, ys', rfl, _, h2⟩ := h
    simpa using VRs.drop k h2
theorem VRs.take {S : Nat → Prop} {ι : Nat → Loc} {n : Nat} {w : World} : ∀ {xs : List AV} {ys : List Value} (k : Nat), VRs S ι n w xs ys → VRs S ι n w (xs.take k) (ys.take k)
  | _, _, 0, h => by simp [VRs]
  | [], _, k + 1, h => by simp only [VRs] at h; subst h; simp [VRs]
  | x :: xs, _, k + 1, h => by
    simp only [VRs] at h
    obtain ⟨y, ys', rfl, h1, h2⟩ := h
    simp only [List.take_succ_cons, VRs]
    exact ⟨y, ys'.take k, rfl, h1, VRs.take k h2⟩
theorem FRs.drop {S : Nat → Prop} {w : World} {xs : List FV} {ys : List Value} (k : Nat) (h : FRs S w xs ys) : FRs S w (xs.drop k) (ys.drop k) := by
  have := VRs.drop (ι := fun _ => ⟨none, 0⟩) (n := 0) k (VRs_map_f.2 h)
  rw [← List.map_drop] at this
  exact VRs_map_f.1 this
theorem FRs.take {S : Nat → Prop} {w : World} {xs : List FV} {ys : List Value} (k : Nat) (h : FRs S w xs ys) : FRs S w (xs.take k) (ys.take k) := by
  have := VRs.take (ι := fun _ => ⟨none, 0⟩) (n := 0) k (VRs_map_f.2 h)
  rw [← List.map_take] at this
  exact VRs_map_f.1 this
theorem FRs.append {S : Nat → Prop} {w : World} : ∀ {xs xs' : List FV} {ys ys' : List Value}, FRs S w xs ys → FRs S w xs' ys' → FRs S w (xs ++ xs') (ys ++ ys')
  | [], _, _, _, h, h' => by simp only [FRs] at h; subst h; simpa using h'
  | x :: xs, _, _, _, h, h' => by
    simp only [FRs] at h
    obtain ⟨y, ys, rfl, h1, h2⟩ := h
    simp only [List.cons_append, FRs]
    exact ⟨y, _, rfl, h1, FRs.append h2 h'⟩
theorem VRs.append {S : Nat → Prop} {ι : Nat → Loc} {n : Nat} {w : World} : ∀ {xs xs' : List AV} {ys ys' : List Value}, VRs S ι n w xs ys → VRs S ι n w xs' ys' → VRs S ι n w (xs ++ xs') (ys ++ ys')
  | [], _, _, _, h, h' => by simp only [VRs] at h; subst h; simpa using h'
  | x :: xs, _, _, _, h, h' => by
    simp only [VRs] at h
    obtain ⟨y, ys, rfl, h1, h2⟩ := h
    simp only [List.cons_append, VRs]
    exact ⟨y, _, rfl, h1, VRs.append h2 h'⟩

/- rows -/
theorem FRrow.take {S : Nat → Prop} {w : World} {sz : Nat} : ∀ {xs : List FV} {ys : List Value} (k : Nat), FRrow S w sz xs ys → FRrow S w sz (xs.take k) ys
  | _, _, 0, _ => by simp [FRrow]
  | [], _, _ + 1, _ => by simp [FRrow]
  | x :: xs, _, k + 1, h => by
    simp only [FRrow, List.take_succ_cons] at h ⊢
    exact ⟨h.1, FRrow.take k h.2⟩
theorem FRrow.drop {S : Nat → Prop} {w : World} {sz : Nat} : ∀ {xs : List FV} {ys : List Value} (k : Nat), FRrow S w sz xs ys → FRrow S w sz (xs.drop k) (ys.drop (k * sz))
  | _, _, 0, h => by simpa using h
  | [], _, _ + 1, _ => by simp [FRrow]
  | x :: xs, ys, k + 1, h => by
    simp only [FRrow, List.drop_succ_cons] at h ⊢
    have := FRrow.drop k h.2
    rwa [List.drop_drop, show sz + k * sz = (k + 1) * sz by rw [Nat.add_mul, Nat.one_mul, Nat.add_comm]] at this
theorem FRrow.get {S : Nat → Prop} {w : World} {sz : Nat} : ∀ {xs : List FV} {ys : List Value}, FRrow S w sz xs ys → ∀ {i : Nat} {x : FV}, xs[i]? = some x → ∃ y, FR S w x y ∧ y.cells.toList = (ys.drop (i * sz)).take sz ∧ y.cells.size = sz ∧ ∀ c ∈ y.cells.toList, c.oneCell' = true
  | [], _, _, i, x, h => by simp at h
  | x :: xs, ys, h, i, z, hz => by
    simp only [FRrow] at h
    cases i with
    | zero => simp at hz; subst hz; simpa using h.1
    | succ i =>
      obtain ⟨y, h1, h2, h3⟩ := FRrow.get h.2 (i := i) (by simpa using hz)
      rw [List.drop_drop, show sz + i * sz = (i + 1) * sz by rw [Nat.add_mul, Nat.one_mul, Nat.add_comm]] at h2
      exact ⟨y, h1, h2, h3⟩
theorem FRrow.congr {S : Nat → Prop} {w : World} {sz : Nat} : ∀ {xs : List FV} {ys zs : List Value}, FRrow S w sz xs ys → ys.take (xs.length * sz) = zs.take (xs.length * sz) → FRrow S w sz xs zs
  | [], _, _, _, _ => by simp [FRrow]
  | x :: xs, ys, zs, h, e => by
    simp only [FRrow] at h ⊢
    simp only [List.length_cons, Nat.add_mul, Nat.one_mul] at e
    have e1 : ys.take sz = zs.take sz := by
      have := congrArg (List.take sz) e
      simpa [List.take_take, Nat.min_eq_left (show sz ≤ xs.length * sz + sz by omega)] using this
    have e2 : (ys.drop sz).take (xs.length * sz) = (zs.drop sz).take (xs.length * sz) := by
      have := congrArg (List.drop sz) e
      simpa [List.drop_take] using this
    refine ⟨?_, h.2.congr e2⟩
    obtain ⟨y, h1, h2, h3⟩ := h.1
    exact ⟨y, h1, by rw [h2, e1], h3⟩
theorem FR.cells {S : Nat → Prop} {w : World} {x : FV} {y : Value} (h : FR S w x y) : FRs S w x.cells y.cells.toList := by
  rcases FR.one_or h with ⟨xs, ys, rfl, rfl, h1, _⟩ | ⟨xs, ys, rfl, rfl⟩ | ⟨h1, h2, _⟩
  · exact h1
  · simp only [FV.cells, Value.cells, FRs]; exact ⟨_, _, rfl, h, rfl⟩
  · rw [h1, h2]; simp only [FRs]; exact ⟨_, _, rfl, h, rfl⟩
theorem FRrow.append {S : Nat → Prop} {w : World} {sz : Nat} : ∀ {xs xs' : List FV} {ys ys' : List Value}, ys.length = xs.length * sz → FRrow S w sz xs ys → FRrow S w sz xs' ys' → FRrow S w sz (xs ++ xs') (ys ++ ys')
  | [], _, ys, _, hl, _, h' => by
    have : ys = [] := List.eq_nil_of_length_eq_zero (by simpa using hl)
    subst this; simpa using h'
  | x :: xs, xs', ys, ys', hl, h, h' => by
    simp only [FRrow, List.cons_append] at h ⊢
    simp only [List.length_cons, Nat.add_mul, Nat.one_mul] at hl
    refine ⟨?_, ?_⟩
    · obtain ⟨y, h1, h2, h3⟩ := h.1
      exact ⟨y, h1, by rw [h2, List.take_append_of_le_length (by omega)], h3⟩
    · rw [List.drop_append_of_le_length (by omega)]
      exact FRrow.append (by simp; omega) h.2 h'

/- reading a cell -/
theorem cell_of {w : World} {b o : Nat} {cs : Array Value} {T : TypeId} {fz : Nat × Nat} {y : Value} (h : w.heap[b]? = some (.cells cs T fz)) (hy : cs.toList[o]? = some y) : w.cell? ⟨b, o, none⟩ = some y := by
  simp only [World.cell?, h, Option.isSome_none, Bool.false_eq_true, if_false]
  simpa using hy

theorem lk_cons {β : Type} (n m : Nat) (v : β) (l : List (Nat × β)) : lk n ((m, v) :: l) = if n = m then some v else lk n l := by
  simp only [lk]
  by_cases h : n = m
  · simp [h]
  · have : (n == m) = false := by simpa using h
    simp [h, this]
theorem lk_hset (n : Nat) (o : AO) : ∀ (h : Heap) (m : Nat), lk m (hset n o h) = if m = n then (lk n h).map (fun _ => o) else lk m h
  | [], m => by simp [hset, lk]
  | (k, x) :: l, m => by
    have ih := lk_hset n o l m
    by_cases hk : n = k
    · subst hk
      simp only [hset, beq_self_eq_true, lk_cons]
      by_cases hm : m = n <;> simp [hm]
    · have : (n == k) = false := by simpa using hk
      simp only [hset, this, lk_cons, ih]
      by_cases hm : m = k
      · subst hm
        simp [Ne.symm hk]
      · by_cases hmn : m = n
        · subst hmn; simp [hm]
        · simp [hm, hmn]
theorem lk_hdel (n : Nat) : ∀ (h : Heap) (m : Nat), lk m (hdel n h) = if m = n then none else lk m h
  | [], m => by simp [hdel, lk]
  | (k, x) :: l, m => by
    have ih := lk_hdel n l m
    by_cases hk : n = k
    · subst hk
      simp only [hdel, beq_self_eq_true, lk_cons, ih]
      by_cases hm : m = n <;> simp [hm]
    · have : (n == k) = false := by simpa using hk
      simp only [hdel, this, lk_cons, ih]
      by_cases hm : m = k
      · subst hm
        simp [Ne.symm hk]
      · by_cases hmn : m = n
        · subst hmn; simp [hm]
        · simp [hm, hmn]

/- operands -/
theorem strip_true {v v' : AV} (h : strip v = (true, v')) : v' = v ∧ ∀ x, v ≠ .g x := by
  cases v <;> simp [strip] at h <;> first | (subst h; exact ⟨rfl, by simp⟩) | skip

section
variable {P : Program} {E : Ent} {N : Nat} {σ : St} {ι : Nat → Loc} {S : Nat → Prop} {a : Act} {w : World}

theorem evo_sound (hs : Sim E N σ ι S a w) {x : Operand} {v : AV} (h : evo σ x = some v) : VR S ι σ.n w v (a.eval x) := by
  cases x with
  | tmp t => exact hs.tm t v h
  | const c =>
    simp only [evo, constAV] at h
    split at h <;> simp at h <;> subst h <;> simp [Act.eval, VR, FR, Value.oneCell']
  | global g => simp [evo] at h
  | func f => simp [evo] at h; subst h; exact ⟨#[], #[], rfl, by simp [VRs], by simp [VRs]⟩
theorem ev_sound (hs : Sim E N σ ι S a w) {x : Operand} {c : Bool} {v : AV} (h : ev σ x = some (c, v)) (hc : c = true) : VR S ι σ.n w v (a.eval x) := by
  subst hc
  unfold ev evs at h
  split at h
  · rename_i u hu
    simp only [Option.some.injEq] at h
    obtain ⟨rfl, _⟩ := strip_true h
    exact evo_sound hs hu
  · cases h
theorem evl_sound (hs : Sim E N σ ι S a w) : ∀ {xs : List Operand} {c : Bool} {vs : List AV}, evl σ xs = some (c, vs) → c = true → VRs S ι σ.n w vs (xs.map a.eval)
  | [], c, vs, h, _ => by simp [evl] at h; obtain ⟨_, rfl⟩ := h; simp [VRs]
  | x :: xs, c, vs, h, hc => by
    simp only [evl] at h
    split at h
    · rename_i c1 v d vs' h1 h2
      simp only [Option.some.injEq, Prod.mk.injEq] at h
      obtain ⟨rfl, rfl⟩ := h
      simp only [Bool.and_eq_true] at hc
      simp only [List.map_cons, VRs]
      exact ⟨_, _, rfl, ev_sound hs h1 hc.1, evl_sound hs h2 hc.2⟩
    · cases h
end
end Go.Fw
