/-
  Fw9: each operation in the abstract machine is the model's (builds, objects made and written).
-/
import Derived.Test.YtddbbfonkgccnaaDoorFw8
set_option linter.unusedVariables false
namespace Go.Fw
section
variable {P : Program} {E : Ent} {N : Nat} {σ σ' : St} {ι : Nat → Loc} {S : Nat → Prop} {a : Act} {w : World} {need : Prop} {v : AV}

theorem VRs.cells_size {n : Nat} {x : AV} {y : Value} (h : VR S ι n w x y) (h1 : x.cells.all AV.one = true) : y.cells.size = x.cells.length := by
  have := (cells_VR h h1).1.length
  simpa using this

theorem fill_sound (hs : Sim E N σ ι S a w) {fs : List (Nat × TypeId)} {place : Nat → Option (Nat × Nat)} (hp : ∀ i o e k, fs[i]? = some (o, e) → tk P e = some k → place i = some (o, k.sz)) :
    ∀ (ps : List (Nat × Operand)) {need0 need : Prop} {cs cs' : List AV} {vs : Array Value}, bldParts (tk P) σ fs ps need0 cs = some (need, cs') → need → VRs S ι σ.n w cs vs.toList → (∀ z ∈ vs.toList, z.oneCell' = true) →
      need0 ∧ ∃ vs', Instr.fill place vs (ps.map fun p => (p.1, a.eval p.2)) = some vs' ∧ VRs S ι σ.n w cs' vs'.toList ∧ (∀ z ∈ vs'.toList, z.oneCell' = true)
  | [], need0, need, cs, cs', vs, h, hn, hv, h1 => by
    simp only [bldParts, Option.some.injEq, Prod.mk.injEq] at h
    obtain ⟨rfl, rfl⟩ := h
    exact ⟨hn, vs, rfl, hv, h1⟩
  | (i, x) :: ps, need0, need, cs, cs', vs, h, hn, hv, h1 => by
    simp only [bldParts] at h
    split at h
    · rename_i c u o e hx hf
      split at h
      · rename_i ke hke
        have hvu : ∀ hc : c = true, VR S ι σ.n w u (a.eval x) := fun hc => ev_sound hs hx hc
        have step : ∀ hc : (need0 ∧ c = true ∧ u.cells.length = ke.sz ∧ o + ke.sz ≤ cs.length ∧ u.cells.all AV.one = true),
            VRs S ι σ.n w (writeAt cs o u.cells) (writeAt vs.toList o (a.eval x).cells.toList) ∧ ∀ z ∈ writeAt vs.toList o (a.eval x).cells.toList, z.oneCell' = true := by
          intro hc
          obtain ⟨e1, e2⟩ := cells_VR (hvu hc.2.1) hc.2.2.2.2
          exact ⟨hv.writeAt e1, fun z hz => (mem_writeAt hz).elim (h1 z) (e2 z)⟩
        have mono : need → need0 ∧ c = true ∧ u.cells.length = ke.sz ∧ o + ke.sz ≤ cs.length ∧ u.cells.all AV.one = true := by
          intro hn
          have : ∀ (ps : List (Nat × Operand)) {n0 n : Prop} {cs cs' : List AV}, bldParts (tk P) σ fs ps n0 cs = some (n, cs') → n → n0 := by
            intro ps
            induction ps with
            | nil => intro n0 n cs cs' h hn; simp only [bldParts, Option.some.injEq, Prod.mk.injEq] at h; obtain ⟨rfl, rfl⟩ := h; exact hn
            | cons p ps ih =>
              intro n0 n cs cs' h hn
              simp only [bldParts] at h
              split at h
              · split at h
                · exact (ih h hn).1
                · cases h
              · cases h
          exact this ps h hn
        have hc := mono hn
        obtain ⟨e1, e2⟩ := step hc
        have hsz : (a.eval x).cells.size = ke.sz := by rw [VRs.cells_size (hvu hc.2.1) hc.2.2.2.2]; exact hc.2.2.1
        have hlen := hv.length
        obtain ⟨h3, vs', h4, h5⟩ := fill_sound hs hp ps (vs := (writeAt vs.toList o (a.eval x).cells.toList).toArray) h hn e1 e2
        refine ⟨hc.1, vs', ?_, h5⟩
        simp only [List.map_cons, Instr.fill, hp i o e ke hf hke]
        have hle : ¬ (o + (a.eval x).cells.size > vs.size) := by rw [hsz]; simp only [Array.length_toList] at hlen; omega
        rw [if_neg (by simp [hsz] at hle ⊢; omega), fold_write']
        exact h4
      · cases h
    · cases h

theorem zero_cells {t : TypeId} {k : TK} (hk : tk P t = some k) : ∃ i z, P.info? t = some i ∧ i.zero = some z ∧ k.zero = zFV z ∧ FR S w k.zero z ∧ (∀ c ∈ z.cells.toList, c.oneCell' = true) ∧ z.cells.size = k.sz ∧ k.sz = i.size ∧ k.bytes = i.bytes := by
  obtain ⟨i, d, z, hi, hu, hz, hsz, hby, hzz, hd, hzs, hone, _⟩ := tk_spec hk
  exact ⟨i, z, hi, hz, hzz, by rw [hzz]; exact zFV_sound S w z hone, hone, by rw [hzs, hsz], hsz, hby⟩
theorem zero_VRs {n : Nat} {t : TypeId} {k : TK} (hk : tk P t = some k) {z : Value} (hf : FR S w k.zero z) (hone : ∀ c ∈ z.cells.toList, c.oneCell' = true) : VRs S ι n w (AV.f k.zero).cells z.cells.toList := by
  have h := hf.cells
  have hz : (AV.f k.zero).cells = k.zero.cells.map .f := by
    cases hk' : k.zero <;> simp [AV.cells, FV.cells]
  rw [hz]
  exact VRs_map_f.2 h

theorem s_build (hs : Sim E N σ ι S a w) {o : Oper} {T : TypeId} {ps : Array (Nat × Operand)} (ho : o.op = .build T ps) (h : aBuild (tk P) σ ps.toList (tk P T) = .val need v σ') (hn : need) : GoodS P σ ι S w (execOp a.eval o) v σ' := by
  have hparts : (ps.map fun (p : Nat × Operand) => (p.1, a.eval p.2)).toList = ps.toList.map fun p => (p.1, a.eval p.2) := by simp
  unfold aBuild at h
  split at h
  · rename_i sz by' ag zz fs hk
    obtain ⟨d, hu, hd⟩ := tk_desc hk
    obtain ⟨arr, rfl, rfl, hall⟩ := tdOf_struct hd
    obtain ⟨i, z, hi, hz, hzz, hf, hone, _⟩ := zero_cells (S := S) (w := w) hk
    unfold aggRes at h
    split at h
    · rename_i nd cs hb
      obtain ⟨rfl, rfl, rfl⟩ := val_inj h
      have hplaces : (arr.mapM fun f => (do pure (f.offset, ← sizeOf f.type) : Sem (Nat × Nat))).run P w = .ok (arr.map fun f => (f.offset, ((P.info? f.type).map (·.size)).getD 0)) w := by
        rw [Array.mapM_eq_mapM_toList]
        simp only [Sem.run_map]
        have : ∀ l : List Field, (∀ f ∈ l, ∃ i, P.info? f.type = some i ∧ i.size ≠ 0) → (l.mapM fun f => (do pure (f.offset, ← sizeOf f.type) : Sem (Nat × Nat))).run P w = .ok (l.map fun f => (f.offset, ((P.info? f.type).map (·.size)).getD 0)) w := by
          intro l
          induction l with
          | nil => intro _; simp
          | cons f l ih =>
            intro hl
            obtain ⟨i, hi, _⟩ := hl f (by simp)
            have := ih fun f hf => hl f (by simp [hf])
            simp only [List.mapM_cons, Sem.run_bind, sizeOf_run hi, Result.andThen_ok, Sem.run_pure, this, List.map_cons, hi, Option.map_some, Option.getD_some]
        rw [this _ hall]
        simp only [Result.andThen_ok]
        exact congrArg (fun r => Result.ok r w) (Array.ext' (by simp))
      obtain ⟨_, vs', h4, h5, h6⟩ := fill_sound hs (place := fun j => (arr.map fun f => (f.offset, ((P.info? f.type).map (·.size)).getD 0))[j]?) (fun j o' e k hf hk => by
        rw [List.getElem?_map] at hf
        cases hg : arr.toList[j]? with
        | none => rw [hg] at hf; cases hf
        | some f =>
          rw [hg] at hf
          simp only [Option.map_some, Option.some.injEq, Prod.mk.injEq] at hf
          obtain ⟨rfl, rfl⟩ := hf
          obtain ⟨i', _, _, hi', _, _, hsz', _⟩ := tk_spec hk
          have hg' : arr[j]? = some f := by simpa using hg
          simp [hg', hi', hsz']) ps.toList (vs := z.cells) hb hn (zero_VRs hk hf hone) hone
      refine .same hs (y := .agg vs') ?_ (by simp only [VR]; exact ⟨vs', rfl, h5, h6⟩)
      simp only [execOp, ho, Instr.build, Sem.run_bind, zeroValue, typeInfo, run_program, Result.andThen_ok, hi, Sem.run_pure, hz, run_underlying hu, hplaces, hparts, h4]
    · cases h
  · rename_i sz by' ag zz n e hk
    obtain ⟨d, hu, hd⟩ := tk_desc hk
    have := tdOf_array hd; subst this
    obtain ⟨i, z, hi, hz, hzz, hf, hone, _⟩ := zero_cells (S := S) (w := w) hk
    split at h
    · rename_i k hke
      unfold aggRes at h
      split at h
      · rename_i nd cs hb
        obtain ⟨rfl, rfl, rfl⟩ := val_inj h
        obtain ⟨_, vs', h4, h5, h6⟩ := fill_sound hs (place := fun j => some (j * k.sz, k.sz)) (fun j o' e' k' hf hk' => by
          simp only [arrFs, List.getElem?_map] at hf
          cases hg : (List.range n)[j]? with
          | none => rw [hg] at hf; cases hf
          | some q =>
            rw [hg] at hf
            simp only [Option.map_some, Option.some.injEq, Prod.mk.injEq] at hf
            obtain ⟨rfl, rfl⟩ := hf
            rw [hke] at hk'
            simp only [Option.some.injEq] at hk'; subst hk'
            have := List.getElem?_eq_some_iff.1 hg
            obtain ⟨_, hq⟩ := this
            simp at hq
            simp [hq]) ps.toList (vs := z.cells) hb hn (zero_VRs hk hf hone) hone
        refine .same hs (y := .agg vs') ?_ (by simp only [VR]; exact ⟨vs', rfl, h5, h6⟩)
        simp only [execOp, ho, Instr.build, Sem.run_bind, zeroValue, typeInfo, run_program, Result.andThen_ok, hi, Sem.run_pure, hz, run_underlying hu, tk_sz hke, hparts, h4]
      · cases h
    · cases h
  · cases h

theorem s_alloc (hs : Sim E N σ ι S a w) {o : Oper} {T : TypeId} (ho : o.op = .alloc T) (h : aAlloc σ T (tk P T) = .val need v σ') (hn : need) : Good P E N a w (execOp a.eval o) v σ' := by
  unfold aAlloc at h
  split at h
  · rename_i k hk
    unfold newCells at h
    obtain ⟨rfl, rfl, rfl⟩ := val_inj h
    obtain ⟨i, z, hi, hz, hzz, hf, hone, _⟩ := zero_cells (S := S) (w := w) hk
    refine ⟨.pointer (some ⟨w.heap.size, 0, none⟩), w.alloc (.cells z.cells T), _, S, .inl ?_, hs.alloc (cap := 0) ⟨w.heap.size, z.cells, rfl, heap_new _ _, ?_, hone⟩, ?_⟩
    · simp [execOp, ho, Instr.alloc, zeroValue, typeInfo, hi, hz, newVar, newRow]
    · exact VRs.mono (fun _ h => h) (fun b hb => (Quiet.alloc w _).heap b (hs.mem.slt b hb)) (Nat.le_succ _) (fun id hid => ext_old hid) (zero_VRs hk hf hone)
    · simp only [VR]; exact ⟨Nat.lt_succ_self _, w.heap.size, by rw [ext_new], rfl⟩
  · cases h
theorem s_box (hs : Sim E N σ ι S a w) {o : Oper} {T : TypeId} {x : Operand} (ho : o.op = .box T x) (h : aBox σ T (ev σ x) = .val need v σ') (hn : need) : Good P E N a w (execOp a.eval o) v σ' := by
  unfold aBox at h
  split at h
  · rename_i c u h1
    unfold newCells at h
    obtain ⟨rfl, rfl, rfl⟩ := val_inj h
    have e1 := ev_sound hs h1 hn.1
    obtain ⟨e2, e3⟩ := cells_VR e1 hn.2
    refine ⟨.pointer (some ⟨w.heap.size, 0, none⟩), w.alloc (.cells (a.eval x).cells T), _, S, .inl ?_, hs.alloc (cap := 0) ⟨w.heap.size, (a.eval x).cells, rfl, heap_new _ _, ?_, e3⟩, ?_⟩
    · simp [execOp, ho, Instr.box, newVar, newRow]
    · exact VRs.mono (fun _ h => h) (fun b hb => (Quiet.alloc w _).heap b (hs.mem.slt b hb)) (Nat.le_succ _) (fun id hid => ext_old hid) e2
    · simp only [VR]; exact ⟨Nat.lt_succ_self _, w.heap.size, by rw [ext_new], rfl⟩
  · cases h

/- freezing -/
mutual
theorem release_sound {E : Ent} {N : Nat} {ι : Nat → Loc} {a : Act} {w : World} : ∀ (v : AV) {σ σ' : St} {S : Nat → Prop} {c : Prop} {y : FV} {val : Value}, Sim E N σ ι S a w → release σ v = some (c, y, σ') → c → VR S ι σ.n w v val →
    ∃ S', (∀ b, S b → S' b) ∧ Sim E N σ' ι S' a w ∧ FR S' w y val ∧ σ'.t = σ.t ∧ σ'.n = σ.n
  | .f x, σ, σ', S, c, y, val, hs, h, hc, hv => by
    simp only [release, Option.some.injEq, Prod.mk.injEq] at h
    obtain ⟨rfl, rfl, rfl⟩ := h
    simp only [VR] at hv
    exact ⟨S, fun _ h => h, hs, hv, rfl, rfl⟩
  | .agg xs, σ, σ', S, c, y, val, hs, h, hc, hv => by
    simp only [release] at h
    split at h
    · rename_i c' ys σ1 hr
      simp only [Option.some.injEq, Prod.mk.injEq] at h
      obtain ⟨rfl, rfl, rfl⟩ := h
      simp only [VR] at hv
      obtain ⟨zs, rfl, hv, hone⟩ := hv
      obtain ⟨S', h1, h2, h3, h4, h5⟩ := rels_sound xs hs hr hc hv
      exact ⟨S', h1, h2, by simp only [FR]; exact ⟨zs, rfl, h3, hone⟩, h4, h5⟩
    · cases h
  | .sl id sz off len, σ, σ', S, c, y, val, hs, h, hc, hv => by
    simp only [release] at h
    split at h
    · rename_i T sz' xs hl
      simp only [Option.some.injEq, Prod.mk.injEq] at h
      obtain ⟨rfl, rfl, rfl⟩ := h
      obtain ⟨rfl, hle⟩ := hc
      simp only [VR] at hv
      obtain ⟨hid, ho⟩ := hs.mem.obj id _ hl
      obtain ⟨_, ⟨hb, _, rfl, _, e⟩ | ⟨b, o, hb, hcap, hoo, _, e⟩⟩ := hv
      · refine ⟨S, fun _ h => h, hs.del id, ?_, rfl, rfl⟩
        simp only [FR]
        exact .inl ⟨by simp, _, _, e⟩
      · rcases ho with ⟨hb', _⟩ | ⟨b', vs, hb', hh, hlc, hcm, hvs, hr⟩
        · rw [hb] at hb'; cases hb'
        · rw [hb] at hb'; simp only [Option.some.injEq] at hb'; subst hb'
          have hown := hs.mem.own id _ b hl hb
          refine ⟨fun b' => S b' ∨ b' = b, fun _ h => .inl h, (hs.del id).more (fun _ h => .inl h) ?_, ?_, rfl, rfl⟩
          · rintro b' (h | rfl)
            · exact .inl h
            · refine .inr ⟨hown.1, hown.2.2, fun id' o' hl' hb' => ?_⟩
              rw [lk_hdel] at hl'
              split at hl'
              · cases hl'
              · rename_i hne
                exact hne (hs.mem.inj id' id o' _ b' hl' hl hb' hb)
          · have hr' := ((hr.drop off).take len).mono (S' := fun b' => S b' ∨ b' = b) (w' := w) (fun _ h => .inl h) (fun _ _ => rfl)
            simp only [FR]
            by_cases h0 : len = 0
            · subst h0; exact .inl ⟨by simp, _, _, e⟩
            · have hlen : ((xs.drop off).take len).length = len := by simp; omega
              have := hoo (by omega); subst this
              exact .inr ⟨b, off * sz, _, vs, T, _, by rw [hlen]; exact e, .inr rfl, hh, hr', by rw [hlen]; omega⟩
    · cases h
  | .tup xs, σ, σ', S, c, y, val, hs, h, hc, hv => by
    simp only [release] at h
    split at h
    · rename_i c' ys σ1 hr
      simp only [Option.some.injEq, Prod.mk.injEq] at h
      obtain ⟨rfl, rfl, rfl⟩ := h
      simp only [VR] at hv
      obtain ⟨zs, rfl, hv⟩ := hv
      obtain ⟨S', h1, h2, h3, h4, h5⟩ := rels_sound xs hs hr hc hv
      exact ⟨S', h1, h2, by simp only [FR]; exact ⟨zs, rfl, h3⟩, h4, h5⟩
    · cases h
  | .ptr _ _, _, _, _, _, _, _, _, h, _, _ => by simp [release] at h
  | .rp _ _ _ _, _, _, _, _, _, _, _, h, _, _ => by simp [release] at h
  | .mp _, _, _, _, _, _, _, _, h, _, _ => by simp [release] at h
  | .it _, _, _, _, _, _, _, _, h, _, _ => by simp [release] at h
  | .clo f xs zs, σ, σ', S, c, y, val, hs, h, hc, hv => by
    simp only [release] at h
    split at h
    · rename_i c1 ys σ1 hr
      split at h
      · rename_i c2 ws σ2 hr2
        simp only [Option.some.injEq, Prod.mk.injEq] at h
        obtain ⟨rfl, rfl, rfl⟩ := h
        simp only [VR] at hv
        obtain ⟨fs, cs, rfl, hv1, hv2⟩ := hv
        obtain ⟨S1, m1, s1, r1, t1, n1⟩ := rels_sound xs hs hr hc.1 hv1
        obtain ⟨S2, m2, s2, r2, t2, n2⟩ := rels_sound zs s1 hr2 hc.2 (hv2.mono m1 (fun _ _ => rfl) (by rw [n1]; exact Nat.le_refl _) (fun _ _ => rfl))
        exact ⟨S2, fun b h => m2 b (m1 b h), s2, by simp only [FR]; exact ⟨fs, cs, rfl, r1.mono m2 (fun _ _ => rfl), r2⟩, t2.trans t1, n2.trans n1⟩
      · cases h
    · cases h
  | .g _, _, _, _, _, _, _, _, h, _, _ => by simp [release] at h
theorem rels_sound {E : Ent} {N : Nat} {ι : Nat → Loc} {a : Act} {w : World} : ∀ (vs : List AV) {σ σ' : St} {S : Nat → Prop} {c : Prop} {ys : List FV} {vals : List Value}, Sim E N σ ι S a w → release.rels σ vs = some (c, ys, σ') → c → VRs S ι σ.n w vs vals →
    ∃ S', (∀ b, S b → S' b) ∧ Sim E N σ' ι S' a w ∧ FRs S' w ys vals ∧ σ'.t = σ.t ∧ σ'.n = σ.n
  | [], σ, σ', S, c, ys, vals, hs, h, hc, hv => by
    simp only [release.rels, Option.some.injEq, Prod.mk.injEq] at h
    obtain ⟨rfl, rfl, rfl⟩ := h
    simp only [VRs] at hv
    exact ⟨S, fun _ h => h, hs, by simp only [FRs]; exact hv, rfl, rfl⟩
  | x :: xs, σ, σ', S, c, ys, vals, hs, h, hc, hv => by
    simp only [release.rels] at h
    split at h
    · rename_i c1 y1 σ1 h1
      split at h
      · rename_i c2 ys2 σ2 h2
        simp only [Option.some.injEq, Prod.mk.injEq] at h
        obtain ⟨rfl, rfl, rfl⟩ := h
        simp only [VRs] at hv
        obtain ⟨v1, vals', rfl, hv1, hv2⟩ := hv
        obtain ⟨S1, m1, s1, r1, t1, n1⟩ := release_sound x hs h1 hc.1 hv1
        obtain ⟨S2, m2, s2, r2, t2, n2⟩ := rels_sound xs s1 h2 hc.2 (hv2.mono m1 (fun _ _ => rfl) (by rw [n1]; exact Nat.le_refl _) (fun _ _ => rfl))
        refine ⟨S2, fun b h => m2 b (m1 b h), s2, ?_, t2.trans t1, n2.trans n1⟩
        simp only [FRs]
        exact ⟨v1, vals', rfl, r1.mono m2 (fun _ _ => rfl), r2⟩
      · cases h
    · cases h
end
end
end Go.Fw
