/-
  Fw10: each operation in the abstract machine is the model's (rows made, written, appended to).
-/
import Derived.Test.YtddbbfonkgccnaaDoorFw9
import Derived.Laws.OwnMore
set_option linter.unusedVariables false
namespace Go.Fw
section
variable {P : Program} {E : Ent} {N : Nat} {σ σ' : St} {ι : Nat → Loc} {S : Nat → Prop} {a : Act} {w : World} {need : Prop} {v : AV}

theorem setRow_only (w : World) (g : Nat) (cs : Array Value) : Only w (w.setRow g cs) g :=
  ⟨fun b hb => setRow_other w g b cs hb, by simp [World.setRow], rfl, rfl, rfl⟩

theorem storeVar_at {t : TypeId} {k : TK} (hk : tk P t = some k) {b o : Nat} {vs : Array Value} {T : TypeId} (hb : w.heap[b]? = some (.cells vs T (0, 0))) {val : Value} (hsz : val.cells.size = k.sz) (hle : o + k.sz ≤ vs.size) (hone : ∀ z ∈ val.cells.toList, z.oneCell' = true) :
    (storeVar t ⟨b, o, none⟩ val).run P w = .ok () (w.setRow b (writeAt vs.toList o val.cells.toList).toArray) := by
  have hr := run_storeCells_at P b o T val.cells.toList 0 vs w hb (by simp; omega) hone
  simp only [Nat.add_zero] at hr
  rw [← writeAt_eq _ _ _ (by simp; omega)] at hr
  simp [storeVar, tk_sz hk, hsz, hr]

theorem FRrow_set {sz : Nat} : ∀ {xs : List FV} {ys : List Value} {i : Nat} {x : FV} {y : Value}, FRrow S w sz xs ys → i < xs.length → xs.length * sz ≤ ys.length → FR S w x y → y.cells.size = sz → (∀ c ∈ y.cells.toList, c.oneCell' = true) →
    FRrow S w sz (xs.set i x) (ys.take (i * sz) ++ y.cells.toList ++ ys.drop (i * sz + sz))
  | [], _, _, _, _, _, h, _, _, _, _ => by simp at h
  | x0 :: xs, ys, 0, x, y, h, _, hl, h1, h2, h3 => by
    simp only [FRrow, List.set_cons_zero, Nat.zero_mul, List.take_zero, List.nil_append, Nat.zero_add] at h ⊢
    refine ⟨⟨y, h1, ?_, h2, h3⟩, ?_⟩
    · rw [List.take_append_of_le_length (by simp [h2]), List.take_of_length_le (by simp [h2])]
    · rw [List.drop_append_of_le_length (by simp [h2]), List.drop_of_length_le (by simp [h2])]
      exact h.2
  | x0 :: xs, ys, i + 1, x, y, h, hi, hl, h1, h2, h3 => by
    simp only [List.length_cons] at hi hl
    rw [Nat.add_mul, Nat.one_mul] at hl
    have hi' : i * sz + sz ≤ xs.length * sz := by
      have := Nat.mul_le_mul_right sz (show i + 1 ≤ xs.length by omega)
      rwa [Nat.add_mul, Nat.one_mul] at this
    simp only [FRrow, List.set_cons_succ] at h ⊢
    have ih := FRrow_set (i := i) h.2 (by omega) (by simp; omega) h1 h2 h3
    rw [Nat.add_mul, Nat.one_mul]
    have e1 : ys.take (i * sz + sz) = ys.take sz ++ (ys.drop sz).take (i * sz) := by rw [Nat.add_comm, List.take_add]
    have hlen : (ys.take sz).length = sz := by simp; omega
    refine ⟨?_, ?_⟩
    · obtain ⟨y0, g1, g2, g3⟩ := h.1
      refine ⟨y0, g1, ?_, g3⟩
      rw [g2, e1]
      simp only [List.append_assoc]
      rw [List.take_append_of_le_length (by omega), List.take_take, Nat.min_self]
    · rw [e1]
      simp only [List.append_assoc]
      rw [List.drop_append_of_le_length (by omega), show (ys.take sz).drop sz = [] from List.drop_of_length_le (by omega), List.nil_append]
      rw [List.drop_drop] at ih
      simp only [List.append_assoc] at ih
      rwa [show i * sz + sz + sz = sz + (i * sz + sz) by omega]

theorem writeAt_sub (ys vals : List Value) (p off sz : Nat) (h1 : off + vals.length ≤ sz) (h2 : p + sz ≤ ys.length) :
    writeAt ys (p + off) vals = ys.take p ++ writeAt ((ys.drop p).take sz) off vals ++ ys.drop (p + sz) := by
  rw [writeAt_eq _ _ _ (by omega), writeAt_eq _ _ _ (by simp; omega)]
  have e1 : ys.take (p + off) = ys.take p ++ (ys.drop p).take off := by rw [List.take_add]
  have e2 : ((ys.drop p).take sz).take off = (ys.drop p).take off := by rw [List.take_take, Nat.min_eq_left (by omega)]
  have e3 : ys.drop (p + off + vals.length) = ((ys.drop p).take sz).drop (off + vals.length) ++ ys.drop (p + sz) := by
    have : ys.drop (p + sz) = ((ys.drop p).drop (off + vals.length)).drop (sz - (off + vals.length)) := by
      rw [List.drop_drop, List.drop_drop]; congr 1; omega
    rw [this, List.drop_take, List.take_append_drop, List.drop_drop]; congr 1; omega
  rw [e1, e2, e3]
  simp [List.append_assoc]

theorem okE_cells {y : FV} {val : Value} (h : FR S w y val) (hk : y.okE = true) : ∀ z ∈ val.cells.toList, z.oneCell' = true := by
  rcases FR.one_or h with ⟨xs, ys, rfl, rfl, _, h1⟩ | ⟨xs, ys, rfl, _⟩ | ⟨_, h2, h3⟩
  · exact h1
  · simp [FV.okE] at hk
  · rw [h2]; simpa using h3

theorem s_store (hs : Sim E N σ ι S a w) {o : Oper} {T : TypeId} {x y : Operand} (ho : o.op = .store T x y) (h : aStore σ (ev σ x) (ev σ y) (tk P T) = .val need v σ') (hn : need) : Good P E N a w (execOp a.eval o) v σ' := by
  unfold aStore at h
  split at h
  · rename_i c id off d u k h1 h2 hk
    split at h
    · rename_i U cs hl
      obtain ⟨rfl, rfl, rfl⟩ := val_inj h
      obtain ⟨hc, hd, hsz, hle, hone⟩ := hn
      have e1 := ev_sound hs h1 hc
      have e2 := ev_sound hs h2 hd
      obtain ⟨e3, e4⟩ := cells_VR e2 hone
      simp only [VR] at e1
      obtain ⟨_, b', hb', e1⟩ := e1
      obtain ⟨hid, b, vs, hb, hh, hv, hvone⟩ := hs.mem.obj id _ hl
      rw [hb] at hb'; simp only [Option.some.injEq] at hb'; subst hb'
      have hvl := hv.length
      have hsz' : (a.eval y).cells.size = k.sz := by rw [VRs.cells_size e2 hone]; exact hsz
      have hr := storeVar_at hk hh (o := off) hsz' (by simp only [Array.length_toList] at hvl; omega) e4
      have hs' := hs.upd (o' := .cells U (writeAt cs off u.cells)) hl hb (setRow_only w b _) (w' := w.setRow b (writeAt vs.toList off (a.eval y).cells.toList).toArray) ?_
      · refine ⟨undef, _, ι, S, .inr ⟨?_, rfl⟩, hs', ?_⟩
        · simp [execOp, ho, e1, Instr.storeAt, Instr.sureAddr, hr]
        · simp only [VR, undef]; exact ⟨#[], rfl, by simp [VRs]⟩
      · refine ⟨b, _, hb, setRow_heap w b vs _ U (0, 0) hh, ?_, fun z hz => (mem_writeAt hz).elim (hvone z) (e4 z)⟩
        exact VRs.mono (fun _ h => h) (fun b' hb' => (setRow_only w b _).heap b' fun e => by subst e; exact (hs.mem.own id _ b' hl hb).2.1 hb') (Nat.le_refl _) (fun _ _ => rfl) (hv.writeAt e3)
    · cases h
  · rename_i c id sz i off d u k h1 h2 hk
    split at h
    · rename_i U sz' xs hl
      unfold aStoreRow at h
      split at h
      · rename_i n yv σ1 hrel
        obtain ⟨rfl, rfl, rfl⟩ := val_inj h
        obtain ⟨⟨hc, hd⟩, hn1, hl1, hi, hoff, rfl, hsz, hok, hk0⟩ := hn
        have e1 := ev_sound hs h1 hc
        have e2 := ev_sound hs h2 hd
        obtain ⟨S', hSS, hs1, hy, ht, hnn⟩ := release_sound u hs hrel hn1 e2
        simp only [VR] at e1
        obtain ⟨_, b', hb', e1⟩ := e1
        obtain ⟨hid, ⟨hb, _⟩ | ⟨b, vs, hb, hh, hlc, hcm, hvs, hr⟩⟩ := hs1.mem.obj id _ hl1
        · rw [hb] at hb'; cases hb'
        rw [hb] at hb'; simp only [Option.some.injEq] at hb'; subst hb'
        have hone := okE_cells hy hok
        have hycl := hy.cells.length
        have hsz' : (a.eval y).cells.size = k.sz := by simp only [Array.length_toList] at hycl; omega
        have hmul : (i + 1) * sz ≤ (ι id).cap * sz := Nat.mul_le_mul_right _ (by omega)
        rw [Nat.add_mul, Nat.one_mul] at hmul
        have hst := storeVar_at hk hh (o := i * sz + off) hsz' (by omega) hone
        obtain ⟨y0, g1, g2, g3, g4⟩ := hr.get (getD_of_lt hi k.zero)
        have hwr : writeAt vs.toList (i * sz + off) (a.eval y).cells.toList = vs.toList.take (i * sz) ++ writeAt y0.cells.toList off (a.eval y).cells.toList ++ vs.toList.drop (i * sz + sz) := by
          rw [writeAt_sub _ _ _ _ sz (by simp; omega) (by simp; omega), g2]
        -- the new element
        have hnew : ∃ y1, FR S' w (bif sz == 1 then yv else .agg (writeAt (xs.getD i k.zero).cells off yv.cells)) y1 ∧ y1.cells.toList = writeAt y0.cells.toList off (a.eval y).cells.toList ∧ y1.cells.size = sz ∧ ∀ z ∈ y1.cells.toList, z.oneCell' = true := by
          by_cases h1 : sz = 1
          · subst h1
            have : off = 0 := by omega
            subst this
            refine ⟨a.eval y, by simpa using hy, ?_, by omega, hone⟩
            have hl0 : y0.cells.toList.length = 1 := by simpa using g3
            have hl1 : (a.eval y).cells.toList.length = 1 := by simp; omega
            rw [writeAt_eq _ _ _ (by omega), hl1, List.drop_of_length_le (by omega)]
            simp
          · refine ⟨.agg (writeAt y0.cells.toList off (a.eval y).cells.toList).toArray, ?_, rfl, by show ((writeAt y0.cells.toList off (a.eval y).cells.toList).toArray).size = sz; rw [List.size_toArray, writeAt_len, Array.length_toList, g3], fun z hz => ?_⟩
            · rw [show (sz == 1) = false by simpa using h1]
              simp only [cond_false, FR]
              exact ⟨_, rfl, g1.cells.writeAt hy.cells, fun z hz => (mem_writeAt hz).elim (g4 z) (hone z)⟩
            · have hz : z ∈ writeAt y0.cells.toList off (a.eval y).cells.toList := hz
              exact (mem_writeAt hz).elim (g4 z) (hone z)
        obtain ⟨y1, k1, k2, k3, k4⟩ := hnew
        have hrow := FRrow_set (i := i) hr hi (by simp [hvs]; exact Nat.mul_le_mul_right _ hlc) k1 k3 k4
        rw [k2, ← hwr] at hrow
        have hs2 := hs1.upd (o' := .row U sz (xs.set i (bif sz == 1 then yv else .agg (writeAt (xs.getD i k.zero).cells off yv.cells)))) hl1 hb (setRow_only w b _) (w' := w.setRow b (writeAt vs.toList (i * sz + off) (a.eval y).cells.toList).toArray) ?_
        · refine ⟨undef, _, ι, S', .inr ⟨?_, rfl⟩, hs2, ?_⟩
          · simp [execOp, ho, e1, Instr.storeAt, Instr.sureAddr, hst]
          · simp only [VR, undef]; exact ⟨#[], rfl, by simp [VRs]⟩
        · refine .inr ⟨b, _, hb, setRow_heap w b vs _ U (0, 0) hh, by simpa using hlc, hcm, by simp [writeAt_len, hvs], ?_⟩
          exact FRrow.mono (fun _ h => h) (fun b' hb' => (setRow_only w b _).heap b' fun e => by subst e; exact (hs1.mem.own id _ b' hl1 hb).2.1 hb') hrow
      · cases h
    · cases h
  · cases h

/- rows made -/
theorem row_zeros {sz : Nat} {x : FV} {z : Value} (hf : FR S w x z) (hsz : z.cells.size = sz) (hone : ∀ c ∈ z.cells.toList, c.oneCell' = true) : ∀ (n : Nat) (r : List Value), FRrow S w sz (List.replicate n x) ((List.replicate n z.cells.toList).flatten ++ r)
  | 0, r => by simp [FRrow]
  | n + 1, r => by
    simp only [List.replicate_succ, FRrow, List.flatten_cons, List.append_assoc]
    refine ⟨⟨z, hf, ?_, hsz, hone⟩, ?_⟩
    · rw [List.take_append_of_le_length (by simp [hsz]), List.take_of_length_le (by simp [hsz])]
    · rw [List.drop_append_of_le_length (by simp [hsz]), List.drop_of_length_le (by simp [hsz]), List.nil_append]
      exact row_zeros hf hsz hone n r
theorem made_flat (z : Array Value) : ∀ (n : Nat), (madeCells z (n * z.size)).toList = (List.replicate n z.toList).flatten := by
  have hf : ∀ n, (madeCells z n).toList = (List.range n).map (fun j => z[j % z.size]!) := by
    intro n; simp [madeCells]
  intro n
  rw [hf]
  induction n with
  | zero => simp
  | succ n ih =>
    rw [Nat.add_mul, Nat.one_mul, Nat.add_comm, List.range_add, List.map_append, List.replicate_succ, List.flatten_cons, ← ih]
    congr 1
    · apply List.ext_getElem?
      intro j
      by_cases hj : j < z.size
      · simp [hj, Nat.mod_eq_of_lt hj]
      · simp [hj]
    · rw [List.map_map]
      apply List.map_congr_left
      intro j _
      simp

theorem s_makeSlice (hs : Sim E N σ ι S a w) {o : Oper} {T : TypeId} {x y : Operand} (ho : o.op = .makeSlice T x y) (h : aMakeSlice (tk P) σ (ev σ x) (ev σ y) (tk P T) = .val need v σ') (hn : need) : Good P E N a w (execOp a.eval o) v σ' := by
  unfold aMakeSlice at h
  split at h
  · rename_i c kk l d kk' cp _ _ _ _ e h1 h2 hk
    obtain ⟨dd, hu, hd⟩ := tk_desc hk
    have := tdOf_slice hd; subst this
    unfold mkSl at h
    split at h
    · rename_i k hke
      obtain ⟨rfl, rfl, rfl⟩ := val_inj h
      obtain ⟨⟨hc, hd⟩, h0, hlc, hby, hcp, hk0⟩ := hn
      have e1 := vr_v (ev_sound hs h1 hc)
      have e2 := vr_v (ev_sound hs h2 hd)
      obtain ⟨i, z, hi, hz, hzz, hf, hone, hzs, hsz, hbb⟩ := zero_cells (S := S) (w := w) hke
      have hr := run_make (P := P) w T e i z hu hi hz kk kk' l cp h0 hlc (by rw [← hbb, Int.mul_comm]; exact hby) (by omega)
      rw [← hsz, ← hzs] at hr
      refine ⟨_, _, _, S, .inl (by simp only [execOp, ho, e1, e2, Sem.run_bind, hr, Result.andThen_ok, Sem.run_pure]; rfl), hs.alloc (cap := cp.toNat) (.inr ⟨w.heap.size, _, rfl, heap_new _ _, by simp; omega, by simp only [maxLen]; omega, by rw [size_madeCells, hzs], ?_⟩), ?_⟩
      · rw [made_flat]
        have := (row_zeros (sz := k.sz) hf hzs hone cp.toNat []).take l.toNat
        rw [List.append_nil] at this
        have htk : (List.replicate cp.toNat k.zero).take l.toNat = List.replicate l.toNat k.zero := by rw [List.take_replicate, Nat.min_eq_left (by omega)]
        rw [htk] at this
        exact this.mono (fun _ h => h) (fun b hb => (Quiet.alloc w _).heap b (hs.mem.slt b hb))
      · simp only [VR]
        refine ⟨Nat.lt_succ_self _, .inr ⟨w.heap.size, 0, by rw [ext_new], by rw [ext_new]; simp; omega, fun _ => by simp, fun _ => rfl, by rw [ext_new]; simp⟩⟩
    · cases h
  · cases h

theorem bsl_mono {sz : Nat} : ∀ (ps : List (Nat × Operand)) {σ σ' : St} {n0 n : Prop} {xs xs' : List FV}, bslParts σ sz ps n0 xs = some (n, xs', σ') → n → n0
  | [], σ, σ', n0, n, xs, xs', h, hn => by simp only [bslParts, Option.some.injEq, Prod.mk.injEq] at h; obtain ⟨rfl, _⟩ := h; exact hn
  | (i, x) :: ps, σ, σ', n0, n, xs, xs', h, hn => by
    simp only [bslParts] at h
    split at h
    · split at h
      · exact (bsl_mono ps h hn).1
      · cases h
    · cases h
theorem bsl_sound {sz : Nat} : ∀ (ps : List (Nat × Operand)) {σ σ' : St} {S : Nat → Prop} {n0 n : Prop} {xs xs' : List FV} {cells : Array Value}, Sim E N σ ι S a w → bslParts σ sz ps n0 xs = some (n, xs', σ') → n → FRrow S w sz xs cells.toList → cells.size = xs.length * sz →
    ∃ S' cells', (∀ b, S b → S' b) ∧ Sim E N σ' ι S' a w ∧ Instr.fill (fun i => some (i * sz, sz)) cells (ps.map fun p => (p.1, a.eval p.2)) = some cells' ∧ FRrow S' w sz xs' cells'.toList ∧ cells'.size = xs'.length * sz ∧ xs'.length = xs.length ∧ σ'.t = σ.t ∧ σ'.n = σ.n
  | [], σ, σ', S, n0, n, xs, xs', cells, hs, h, hn, hr, hc => by
    simp only [bslParts, Option.some.injEq, Prod.mk.injEq] at h
    obtain ⟨rfl, rfl, rfl⟩ := h
    exact ⟨S, cells, fun _ h => h, hs, rfl, hr, hc, rfl, rfl, rfl⟩
  | (i, x) :: ps, σ, σ', S, n0, n, xs, xs', cells, hs, h, hn, hr, hc => by
    simp only [bslParts] at h
    split at h
    · rename_i c u hx
      split at h
      · rename_i d y σ1 hrel
        obtain ⟨_, hcc, hd, hi, hysz, hok⟩ := bsl_mono ps h hn
        have e1 := ev_sound hs hx hcc
        obtain ⟨S1, m1, s1, r1, t1, n1⟩ := release_sound u hs hrel hd e1
        have hone := okE_cells r1 hok
        have hycl := r1.cells.length
        have hsz' : (a.eval x).cells.size = sz := by simp only [Array.length_toList] at hycl; omega
        have hmul : (i + 1) * sz ≤ xs.length * sz := Nat.mul_le_mul_right _ (by omega)
        rw [Nat.add_mul, Nat.one_mul] at hmul
        have hrow := FRrow_set (i := i) (hr.mono m1 (w' := w) (fun _ _ => rfl)) hi (by simp [hc]) r1 hsz' hone
        have hwr : (writeAt cells.toList (i * sz) (a.eval x).cells.toList) = cells.toList.take (i * sz) ++ (a.eval x).cells.toList ++ cells.toList.drop (i * sz + sz) := by
          rw [writeAt_eq _ _ _ (by simp; omega)]; simp [hsz']
        rw [← hwr] at hrow
        obtain ⟨S2, cells', m2, s2, f2, r2, c2, l2, t2, n2⟩ := bsl_sound ps (cells := (writeAt cells.toList (i * sz) (a.eval x).cells.toList).toArray) s1 h hn hrow (by simp [writeAt_len, hc])
        refine ⟨S2, cells', fun b h => m2 b (m1 b h), s2, ?_, r2, c2, by rw [l2]; simp, t2.trans t1, n2.trans n1⟩
        simp only [List.map_cons, Instr.fill]
        rw [if_neg (by simp [hsz']; omega), fold_write']
        exact f2
      · cases h
    · cases h

theorem s_buildSlice (hs : Sim E N σ ι S a w) {o : Oper} {T : TypeId} {len : Nat} {ps : Array (Nat × Operand)} (ho : o.op = .buildSlice T len ps) (h : aBuildSlice (tk P) σ len ps.toList (tk P T) = .val need v σ') (hn : need) : Good P E N a w (execOp a.eval o) v σ' := by
  have hparts : (ps.map fun (p : Nat × Operand) => (p.1, a.eval p.2)).toList = ps.toList.map fun p => (p.1, a.eval p.2) := by simp
  unfold aBuildSlice at h
  split at h
  · rename_i _ _ _ _ e hk
    obtain ⟨dd, hu, hd⟩ := tk_desc hk
    have := tdOf_slice hd; subst this
    unfold bslE at h
    split at h
    · rename_i k hke
      unfold bslRes at h
      split at h
      · rename_i nd xs σ1 hb
        obtain ⟨rfl, rfl, rfl⟩ := val_inj h
        obtain ⟨hnd, hlim, hlim2⟩ := hn
        obtain ⟨i, z, hi, hz, hzz, hf, hone, hzs, hsz, hbb⟩ := zero_cells (S := S) (w := w) hke
        have hrow0 := row_zeros (sz := k.sz) hf hzs hone len []
        rw [List.append_nil, ← made_flat] at hrow0
        obtain ⟨S', cells', m, s1, f1, r1, c1, l1, t1, n1⟩ := bsl_sound ps.toList (cells := madeCells z.cells (len * z.cells.size)) hs hb hnd hrow0 (by rw [size_madeCells, hzs]; simp)
        rw [hzs] at f1
        simp only [List.length_replicate] at l1
        have hlim' : ¬ (len * k.sz > 2 ^ 24) := by simp; omega
        have hrun : (execOp a.eval o).run P w = .ok (.value (.slice (some ⟨w.heap.size, 0, none⟩) len len)) (w.alloc (.cells cells' e)) := by
          have hfill : Instr.fill (fun i => some (i * k.sz, k.sz)) ((Array.range (len * k.sz)).map (z.cells[· % z.cells.size]!)) (ps.map fun (p : Nat × Operand) => (p.1, a.eval p.2)).toList = some cells' := by rw [hparts]; exact f1
          simp only [execOp, ho, Instr.buildSlice, Sem.run_bind, run_underlying hu, Result.andThen_ok, tk_sz hke, hlim', if_false, Sem.run_pure]
          by_cases h0 : len * k.sz = 0
          · simp only [h0, Array.range_zero', Array.map_empty] at hfill
            simp only [h0, if_true, Sem.run_bind, Sem.run_pure, Result.andThen_ok, Array.range_zero', Array.map_empty, hfill]
            simp [newRow]
          · simp only [h0, if_false, Sem.run_bind, zeroValue, typeInfo, run_program, Result.andThen_ok, hi, Sem.run_pure, hz]
            rw [hfill]
            simp [newRow]
        refine ⟨_, _, _, S', .inl hrun, s1.alloc (cap := len) (.inr ⟨w.heap.size, cells', rfl, heap_new _ _, by show xs.length ≤ len; omega, ?_, by rw [c1, l1], ?_⟩), ?_⟩
        · show len ≤ maxLen
          simp only [maxLen]; omega
        · exact r1.mono (fun _ h => h) (fun b hb => (Quiet.alloc w _).heap b (s1.mem.slt b hb))
        · simp only [VR]
          refine ⟨Nat.lt_succ_self _, .inr ⟨w.heap.size, 0, by rw [ext_new], by rw [ext_new]; simp, fun _ => by simp, fun _ => rfl, by rw [ext_new]; simp⟩⟩
      · cases h
    · cases h
  · cases h

/- append -/
theorem run_append_zero {t u ty e : TypeId} (ht : P.underlying t = some (.slice e)) (hu : ∃ d, P.underlying u = some d ∧ (∀ k, d ≠ .int k)) {i : TypeInfo} (hi : P.info? e = some i) (base p : Option Addr) (n cap c : Nat) (hle : n ≤ cap) :
    (Builtin.append_ #[t, u] ty #[.slice base n cap, .slice p 0 c]).run P w = .ok (.slice base n cap) w := by
  obtain ⟨d, hu, hd⟩ := hu
  have hz : (match d with | .int _ => true | _ => false) = false := by
    cases d <;> first | rfl | (rename_i k; exact absurd rfl (hd k))
  have hfc : (Builtin.firstCells i.size 0 (.slice p 0 c)).run P w = .ok #[] w := by
    cases p <;> simp [Builtin.firstCells, loadCells, loadCellsFrom]
  cases base with
  | none => simp [Builtin.append_, run_underlying ht, run_underlying hu, sizeOf, typeInfo, hi, Builtin.lenOf, hle, hfc]
  | some b => simp [Builtin.append_, run_underlying ht, run_underlying hu, sizeOf, typeInfo, hi, Builtin.lenOf, hle, hfc, storeCells]

theorem FRrow_flat {sz : Nat} : ∀ {xs : List FV} {ys : List Value}, FRrow S w sz xs ys → xs.length * sz ≤ ys.length → ∀ z ∈ ys.take (xs.length * sz), z.oneCell' = true
  | [], _, _, _, z, h => by simp at h
  | x :: xs, ys, h, hl, z, hz => by
    simp only [FRrow] at h
    simp only [List.length_cons, Nat.add_mul, Nat.one_mul] at hl hz
    rw [Nat.add_comm, List.take_add] at hz
    rcases List.mem_append.1 hz with hz | hz
    · obtain ⟨y, _, h2, _, h4⟩ := h.1
      rw [← h2] at hz; exact h4 z hz
    · exact FRrow_flat h.2 (by simp; omega) z hz

theorem FRrow.len {sz : Nat} : ∀ {xs : List FV} {ys : List Value}, FRrow S w sz xs ys → xs.length * sz ≤ ys.length
  | [], _, _ => by simp
  | x :: xs, ys, h => by
    simp only [FRrow] at h
    obtain ⟨⟨y, _, h2, h3, _⟩, h4⟩ := h
    have := FRrow.len h4
    have h5 := congrArg List.length h2
    simp only [Array.length_toList, List.length_take, List.length_drop] at h5 this
    rw [List.length_cons, Nat.add_mul, Nat.one_mul]; omega

/-- what a source of an append is -/
def Src (S : Nat → Prop) (w : World) (sz : Nat) (ys : List FV) (y : Value) : Prop :=
  (∃ p c, y = .slice p 0 c ∧ ys = []) ∨ (∃ b o c cs T fz, y = .slice (some ⟨b, o, none⟩) ys.length c ∧ w.heap[b]? = some (.cells cs T fz) ∧ FRrow S w sz ys (cs.toList.drop o))
theorem Src.cells {S : Nat → Prop} {w : World} {sz : Nat} {ys : List FV} {y : Value} (h : Src S w sz ys y) : (∃ p c, y = .slice p 0 c ∧ ys = []) ∨
    (0 < ys.length ∧ ∃ b o c news, y = .slice (some ⟨b, o, none⟩) ys.length c ∧ news.length = ys.length * sz ∧ (∀ j q, news[j]? = some q → w.cell? ((⟨b, o, none⟩ : Addr).add j) = some q) ∧ FRrow S w sz ys news ∧ ∀ z ∈ news, z.oneCell' = true) := by
  rcases h with h | ⟨b, o, c, cs, T, fz, e, hh, hr⟩
  · exact .inl h
  · by_cases h0 : ys = []
    · subst h0; exact .inl ⟨_, _, e, rfl⟩
    · have hp : 0 < ys.length := List.length_pos_iff.2 h0
      have hlen := hr.len
      have hnl : ((cs.toList.drop o).take (ys.length * sz)).length = ys.length * sz := by rw [List.length_take]; omega
      exact .inr ⟨hp, b, o, c, (cs.toList.drop o).take (ys.length * sz), e, hnl, fun j q hj => by rw [add_off]; exact cell_of hh (by have := sub_get hj; rwa [List.getElem?_drop] at this),
        hr.congr (by rw [List.take_take, Nat.min_self]), FRrow_flat hr hlen⟩

/-- what an append comes to, at a source of n elements whose cells are 'news' -/
structure AppSrc (P : Program) (w : World) (T U V e : TypeId) (y : Value) (n : Nat) (news : List Value) : Prop where
  zero : n = 0 → ∀ (base : Option Addr) (len cap : Nat), len ≤ cap → (Builtin.append_ #[T, U] V #[.slice base len cap, y]).run P w = .ok (.slice base len cap) w
  fresh : 0 < n → ∀ (i : TypeInfo) (z : Value), P.underlying T = some (.slice e) → P.info? e = some i → i.zero = some z → news.length = n * i.size → n ≤ 9223372036854775807 → n * i.bytes ≤ 281474976710656 →
    (Builtin.append_ #[T, U] V #[.slice none 0 0, y]).run P w = .ok (.slice (some ⟨w.heap.size, 0, none⟩) n (grownCap w n 0 e)) (w.drew.alloc (.cells (news.toArray ++ Builtin.zeroCells z.cells (grownCap w n 0 e - n)) e))
  room : 0 < n → ∀ (i : TypeInfo), P.underlying T = some (.slice e) → P.info? e = some i → ∀ (g len cap : Nat) (cur : Array Value), w.heap[g]? = some (.cells cur e (0, 0)) → news.length = n * i.size → (∀ z ∈ news, z.oneCell' = true) → len + n ≤ cap → len * i.size + news.length ≤ cur.size →
    (Builtin.append_ #[T, U] V #[.slice (some ⟨g, 0, none⟩) len cap, y]).run P w = .ok (.slice (some ⟨g, 0, none⟩) (len + n) cap) (w.setRow g (cur.toList.take (len * i.size) ++ news ++ cur.toList.drop (len * i.size + news.length)).toArray)
  grow : 0 < n → ∀ (i : TypeInfo) (z : Value), P.underlying T = some (.slice e) → P.info? e = some i → i.zero = some z → ∀ (b : Addr) (len cap : Nat) (olds : List Value), olds.length = len * i.size → (∀ j v, olds[j]? = some v → w.cell? (b.add j) = some v) → news.length = n * i.size → cap < len + n → len + n ≤ 9223372036854775807 →
    Builtin.nextslicecap (len + n) cap * i.bytes ≤ 281474976710656 →
    (Builtin.append_ #[T, U] V #[.slice (some b) len cap, y]).run P w = .ok (.slice (some ⟨w.heap.size, 0, none⟩) (len + n) (grownCap w (len + n) cap e)) (w.drew.alloc (.cells (olds.toArray ++ news.toArray ++ Builtin.zeroCells z.cells (grownCap w (len + n) cap e - (len + n))) e))

theorem FRrow_one {S : Nat → Prop} {w : World} {sz : Nat} {ys : List FV} {news : List Value} (hr : FRrow S w sz ys news) (hnl : news.length = ys.length * sz) : ∀ z ∈ news, z.oneCell' = true := by
  have h := FRrow_flat hr (by omega)
  rwa [← hnl, List.take_length] at h

theorem Src.app {S : Nat → Prop} {w : World} {sz : Nat} {ys : List FV} {y : Value} {T V e : TypeId} {i : TypeInfo} (hu : P.underlying T = some (.slice e)) (hi : P.info? e = some i) (hsz : sz = i.size) (h : Src S w sz ys y) :
    ∃ news, AppSrc P w T T V e y ys.length news ∧ news.length = ys.length * sz ∧ FRrow S w sz ys news := by
  rcases h.cells with ⟨p, cp, rfl, rfl⟩ | ⟨h0, b2, oo, cp, news, rfl, hnl, hcell, hr, hnone⟩
  · exact ⟨[], ⟨fun _ base len cap hle => run_append_zero hu ⟨_, hu, by simp⟩ hi base p len cap cp hle, fun h => by simp at h, fun h => by simp at h, fun h => by simp at h⟩, by simp, by simp [FRrow]⟩
  · exact ⟨news, ⟨fun h => by omega, fun _ i' z hu' hi' hz hn h63 h48 => run_append_nil (P := P) w T V e i' z hu' hi' hz ⟨b2, oo, none⟩ ys.length cp news hn hcell h0 (by omega) h48,
      fun _ i' hu' hi' g len cap cur hg hn hone hroom hfit => run_append_room (P := P) w T V e i' hu' hi' g len cap cur hg ⟨b2, oo, none⟩ ys.length cp news hn hcell hone hroom hfit,
      fun _ i' z hu' hi' hz b len cap olds hlo holds hn hlt h63 hfit => run_append_grow (P := P) w T V e i' z hu' hi' hz b len cap olds hlo holds ⟨b2, oo, none⟩ ys.length cp news hn hcell hlt (by omega) hfit⟩, hnl, hr⟩

theorem append_nil {T U V e : TypeId} {n : Nat} {news : List Value} {k : TK} (hu : P.underlying T = some (.slice e)) (hke : tk P e = some k) (hk0 : k.sz ≠ 0) {ys : List FV} {y : Value} (hs : Sim E N σ ι S a w) (hyn : ys.length = n) (A : AppSrc P w T U V e y n news) (hnl : news.length = ys.length * k.sz) (hr : FRrow S w k.sz ys news) (hb : ys.length * k.bytes ≤ 140737488355328) (hl : ys.length ≤ 140737488355328) :
    ∃ r w' ι', (Builtin.append_ #[T, U] V #[.slice none 0 0, y]).run P w = .ok r w' ∧ Sim E N ⟨σ.t, (σ.n, .row e k.sz ys) :: σ.h, σ.n + 1⟩ ι' S a w' ∧ VR S ι' (σ.n + 1) w' (.sl σ.n k.sz 0 ys.length) r := by
  obtain ⟨i, z, hi, hz, hzz, hf, hone, hzs, hsz, hbb⟩ := zero_cells (S := S) (w := w) hke
  subst hyn
  rcases Nat.eq_zero_or_pos ys.length with h0 | h0
  · have hnil : ys = [] := List.length_eq_zero_iff.1 h0
    subst hnil
    have hrun := A.zero rfl none 0 0 (Nat.le_refl _)
    exact ⟨.slice none 0 0, w, _, hrun, hs.name (l := ⟨none, 0⟩) (by simp) (.inl ⟨rfl, rfl, rfl⟩), by simp [VR, ext]⟩
  · have hrun := A.fresh h0 i z hu hi hz (by rw [hnl, hsz]) (by omega) (by rw [← hbb]; omega)
    have hge := grownCap_ge w ys.length 0 e
    have hcm := grownCap_le_maxLen w ys.length 0 e (by simp only [maxLen]; omega)
    refine ⟨_, _, _, hrun, (hs.quiet (Quiet.drew w)).alloc (cap := grownCap w ys.length 0 e) (.inr ⟨w.heap.size, _, rfl, heap_new _ _, hge, hcm, ?_, ?_⟩), ?_⟩
    · simp only [Array.size_append, List.size_toArray, hnl, size_zeroCells, hzs, ← Nat.add_mul]; congr 1; omega
    · have := hr.mono (S' := S) (w := w) (w' := w.drew.alloc (.cells (news.toArray ++ Builtin.zeroCells z.cells (grownCap w ys.length 0 e - ys.length)) e)) (fun _ h => h) (fun b hb => (Quiet.alloc w.drew _).heap b (hs.mem.slt b hb))
      refine this.congr ?_
      rw [Array.toList_append]
      simp only [List.take_append_of_le_length (show ys.length * k.sz ≤ news.length by omega)]
    · simp only [VR]
      refine ⟨Nat.lt_succ_self _, .inr ⟨w.heap.size, 0, by rw [ext_new]; rfl, by rw [ext_new]; simpa using hge, fun _ => by simp, fun _ => rfl, by rw [ext_new]; rfl⟩⟩

theorem append_own {T U V e : TypeId} {n : Nat} {news : List Value} {k : TK} (hu : P.underlying T = some (.slice e)) (hke : tk P e = some k) (hk0 : k.sz ≠ 0) {ys : List FV} {y : Value} (hs : Sim E N σ ι S a w) (hyn : ys.length = n) (A : AppSrc P w T U V e y n news) (hnl : news.length = ys.length * k.sz) (hr : FRrow S w k.sz ys news) {id len : Nat} {xs : List FV} (hl : lk id σ.h = some (.row e k.sz xs))
    {b : Nat} (hb : (ι id).b = some b) (hlen : len ≤ xs.length) (hby : (len + ys.length) * k.bytes ≤ 140737488355328) (hln : len + ys.length ≤ 140737488355328) :
    ∃ r w' ι', (Builtin.append_ #[T, U] V #[.slice (some ⟨b, 0, none⟩) len (ι id).cap, y]).run P w = .ok r w' ∧ Sim E N ⟨σ.t, (σ.n, .row e k.sz (xs.take len ++ ys)) :: hdel id σ.h, σ.n + 1⟩ ι' S a w' ∧ VR S ι' (σ.n + 1) w' (.sl σ.n k.sz 0 (len + ys.length)) r := by
  obtain ⟨i, z, hi, hz, hzz, hf, hone, hzs, hsz, hbb⟩ := zero_cells (S := S) (w := w) hke
  obtain ⟨hid, ⟨hb', _⟩ | ⟨b', vs, hb', hh, hlc, hcm, hvs, hrow⟩⟩ := hs.mem.obj id _ hl
  · rw [hb] at hb'; cases hb'
  rw [hb] at hb'; simp only [Option.some.injEq] at hb'; subst hb'
  have hown := hs.mem.own id _ b hl hb
  have hother : ∀ id' o', lk id' (hdel id σ.h) = some o' → (ι id').b ≠ some b := by
    intro id' o' hl' hb'
    rw [lk_hdel] at hl'
    split at hl'
    · cases hl'
    · rename_i hne; exact hne (hs.mem.inj id' id o' _ b hl' hl hb' hb)
  have hxl : (xs.take len).length = len := by simp; omega
  subst hyn
  rcases Nat.eq_zero_or_pos ys.length with h0 | h0
  · have hnil : ys = [] := List.length_eq_zero_iff.1 h0
    subst hnil
    have hrun := A.zero rfl (some ⟨b, 0, none⟩) len (ι id).cap (by omega)
    refine ⟨.slice (some ⟨b, 0, none⟩) len (ι id).cap, w, _, hrun, (hs.del id).name (l := ι id) ?_ (.inr ⟨b, vs, hb, hh, by simp; omega, hcm, hvs, ?_⟩), ?_⟩
    · intro b' hb''; rw [hb] at hb''; simp only [Option.some.injEq] at hb''; subst hb''; exact ⟨hown.1, hown.2.1, hown.2.2, hother⟩
    · simpa using hrow.take len
    · simp only [VR]
      exact ⟨Nat.lt_succ_self _, .inr ⟨b, 0, by rw [ext_new]; exact hb, by rw [ext_new]; simp; omega, fun _ => by simp, fun _ => rfl, by rw [ext_new]; simp⟩⟩
  · by_cases hroom : len + ys.length ≤ (ι id).cap
    · -- in place
      have hfit : len * i.size + news.length ≤ vs.size := by rw [hnl, hvs, ← hsz, ← Nat.add_mul]; exact Nat.mul_le_mul_right _ hroom
      have hrun := A.room h0 i hu hi b len (ι id).cap vs hh (by rw [hnl, hsz]) (FRrow_one hr hnl) hroom hfit
      have hon := setRow_only w b (vs.toList.take (len * i.size) ++ news ++ vs.toList.drop (len * i.size + news.length)).toArray
      have hS : ∀ b', S b' → (w.setRow b (vs.toList.take (len * i.size) ++ news ++ vs.toList.drop (len * i.size + news.length)).toArray).heap[b']? = w.heap[b']? :=
        fun b' hb' => hon.heap b' fun e => by subst e; exact hown.2.1 hb'
      have hrow' : FRrow S (w.setRow b (vs.toList.take (len * i.size) ++ news ++ vs.toList.drop (len * i.size + news.length)).toArray) k.sz (xs.take len ++ ys) (vs.toList.take (len * i.size) ++ news ++ vs.toList.drop (len * i.size + news.length)) := by
        have r1 := (hrow.take len).mono (S' := S) (fun _ h => h) hS
        have r2 := hr.mono (S' := S) (fun _ h => h) hS
        have hl1 : (vs.toList.take (len * i.size)).length = (xs.take len).length * k.sz := by rw [hxl, ← hsz, List.length_take, Array.length_toList]; rw [hnl, ← hsz, ← Nat.add_mul, Nat.add_mul] at hfit; omega
        have r3 := FRrow.append hl1 (r1.congr (by rw [hxl, ← hsz, List.take_take, Nat.min_self])) r2
        refine r3.congr (List.take_append_of_le_length ?_).symm
        rw [List.length_append, List.length_append, hxl, hl1, hxl, hnl, Nat.add_mul]; exact Nat.le_refl _
      refine ⟨_, _, ext ι σ.n (ι id), hrun, ?_, ?_⟩
      · have h1 : Sim E N ⟨σ.t, hset id (.row e k.sz (xs.take len ++ ys)) σ.h, σ.n⟩ ι S a (w.setRow b (vs.toList.take (len * i.size) ++ news ++ vs.toList.drop (len * i.size + news.length)).toArray) := by
          refine hs.upd hl hb hon (.inr ⟨b, _, hb, setRow_heap w b vs _ e (0, 0) hh, by simp; omega, hcm, ?_, by simpa using hrow'⟩)
          simp; omega
        have h2 := (h1.del id).name (l := ι id) (o := .row e k.sz (xs.take len ++ ys)) ?_ ?_
        · refine h2.congr fun m => ?_
          simp only [lk_cons, lk_hdel, lk_hset]
          split
          · rfl
          · split <;> rfl
        · intro b' hb''; rw [hb] at hb''; simp only [Option.some.injEq] at hb''; subst hb''
          refine ⟨by rw [hon.size]; exact hown.1, hown.2.1, hown.2.2, fun id' o' hl' => ?_⟩
          rw [lk_hdel, lk_hset] at hl'
          split at hl'
          · cases hl'
          · rename_i hne; exact fun hb' => hne (hs.mem.inj id' id o' _ b hl' hl hb' hb)
        · exact .inr ⟨b, _, hb, setRow_heap w b vs _ e (0, 0) hh, by simp; omega, hcm, by simp; omega, by simpa using hrow'⟩
      · simp only [VR]
        exact ⟨Nat.lt_succ_self _, .inr ⟨b, 0, by rw [ext_new]; exact hb, by rw [ext_new]; simpa using hroom, fun _ => by simp, fun _ => rfl, by rw [ext_new]; simp⟩⟩
    · -- a new row
      have hol : (vs.toList.take (len * k.sz)).length = len * i.size := by
        have := Nat.mul_le_mul_right k.sz (show len ≤ (ι id).cap by omega)
        rw [List.length_take, Array.length_toList, hvs, ← hsz]; omega
      have hrun := A.grow h0 i z hu hi hz ⟨b, 0, none⟩ len (ι id).cap (vs.toList.take (len * k.sz)) hol (fun j q hj => by rw [add_off]; exact cell_of hh (by simpa using sub_get hj))
        (by rw [hnl, hsz]) (by omega) (by omega) (growslice_fits (by omega) (by rw [← hbb]; exact hby))
      have hge := grownCap_ge w (len + ys.length) (ι id).cap e
      have hcm' := grownCap_le_maxLen w (len + ys.length) (ι id).cap e (by simp only [maxLen]; omega)
      refine ⟨_, _, _, hrun, ((hs.del id).quiet (Quiet.drew w)).alloc (cap := grownCap w (len + ys.length) (ι id).cap e) (.inr ⟨w.heap.size, _, rfl, heap_new _ _, by simp [hxl]; exact hge, hcm', ?_, ?_⟩), ?_⟩
      · simp only [Array.size_append, List.size_toArray, hol, hnl, size_zeroCells, hzs, ← hsz, ← Nat.add_mul]; congr 1; omega
      · have hS : ∀ b', S b' → (w.drew.alloc (.cells ((vs.toList.take (len * k.sz)).toArray ++ news.toArray ++ Builtin.zeroCells z.cells (grownCap w (len + ys.length) (ι id).cap e - (len + ys.length))) e)).heap[b']? = w.heap[b']? :=
          fun b' hb' => (Quiet.alloc w.drew _).heap b' (hs.mem.slt b' hb')
        have r1 := (hrow.take len).mono (S' := S) (fun _ h => h) hS
        have r2 := hr.mono (S' := S) (fun _ h => h) hS
        have hl1 : (vs.toList.take (len * k.sz)).length = (xs.take len).length * k.sz := by rw [hxl, hol, hsz]
        have r3 := FRrow.append hl1 (r1.congr (by rw [hxl, List.take_take, Nat.min_self])) r2
        simp only [Array.toList_append]
        refine r3.congr (List.take_append_of_le_length ?_).symm
        rw [List.length_append, List.length_append, hxl, hl1, hxl, hnl, Nat.add_mul]; exact Nat.le_refl _
      · simp only [VR]
        exact ⟨Nat.lt_succ_self _, .inr ⟨w.heap.size, 0, by rw [ext_new]; rfl, by rw [ext_new]; simpa using hge, fun _ => by simp, fun _ => rfl, by rw [ext_new]; rfl⟩⟩

theorem s_append (hs : Sim E N σ ι S a w) {o : Oper} {T U V : TypeId} {x y : Operand} (ho : execOp a.eval o = (do let v ← builtin .append #[T, U] V #[] #[a.eval x, a.eval y]; pure v)) (h : aAppend (tk P) σ T U (ev σ x) (ev σ y) (tk P T) = .val need v σ') (hn : need) : Good P E N a w (execOp a.eval o) v σ' := by
  rw [ho]
  unfold aAppend at h
  split at h
  · rename_i c s d u _ _ _ _ e h1 h2 hk
    obtain ⟨dd, hu, hd⟩ := tk_desc hk
    have := tdOf_slice hd; subst this
    unfold apT at h
    split at h
    · rename_i k hke
      unfold apE at h
      split at h
      · -- onto nil
        rename_i n ys hrd
        unfold apRow at h
        obtain ⟨rfl, rfl, rfl⟩ := val_inj h
        obtain ⟨⟨⟨rfl, hc, hd'⟩, hnn, hk0⟩, hb, hl⟩ := hn
        have e1 := vr_v (ev_sound hs h1 hc)
        simp only [List.length_nil, Nat.zero_add, List.nil_append] at hb hl ⊢
        obtain ⟨i, _, _, hi, _, _, hsz, _⟩ := tk_spec hke
        obtain ⟨news, A, hnl, hr⟩ := Src.app (V := V) hu hi hsz (rdSl_sound hs hrd hnn (ev_sound hs h2 hd'))
        obtain ⟨r, w', ι', hrun, hs', hv⟩ := append_nil (V := V) hu hke hk0 hs rfl A hnl hr hb hl
        exact ⟨r, w', ι', S, .inl (by simp [builtin, e1, hrun]), hs', hv⟩
      · rename_i id sz off len n ys hrd
        split at h
        · rename_i T' sz' xs hlk
          unfold apRow at h
          obtain ⟨rfl, rfl, rfl⟩ := val_inj h
          obtain ⟨⟨⟨rfl, hc, hd'⟩, hnn, hk0, rfl, hle, rfl, rfl, rfl⟩, hb, hl⟩ := hn
          have hxl : (xs.take len).length = len := by simp; omega
          rw [hxl] at hb hl ⊢
          have e1 := ev_sound hs h1 hc
          obtain ⟨i, _, _, hi, _, _, hsz, _⟩ := tk_spec hke
          obtain ⟨news, A, hnl, hr⟩ := Src.app (V := V) hu hi hsz (rdSl_sound hs hrd hnn (ev_sound hs h2 hd'))
          simp only [VR] at e1
          obtain ⟨hid, ⟨hbn, _, rfl, hcap, e1⟩ | ⟨b, oo, hbn, hcap, _, ho0, e1⟩⟩ := e1
          · simp only [List.take_zero, List.nil_append, Nat.zero_add] at hb hl ⊢
            obtain ⟨r, w', ι', hrun, hs', hv⟩ := append_nil (V := V) hu hke hk0 (hs.del id) rfl A hnl hr hb hl
            exact ⟨r, w', ι', S, .inl (by simp [builtin, e1, hrun]), hs', hv⟩
          · have := ho0 trivial; subst this
            obtain ⟨r, w', ι', hrun, hs', hv⟩ := append_own (V := V) hu hke hk0 hs rfl A hnl hr hlk hbn hle hb hl
            exact ⟨r, w', ι', S, .inl (by simp [builtin, e1, hrun]), hs', hv⟩
        · cases h
      · cases h
    · cases h
  · cases h
end
end Go.Fw
