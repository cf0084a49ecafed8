/-
  Fw6: each operation in the abstract machine is the model's (addresses, fields, indexes, slices, conversions).
-/
import Derived.Test.YtddbbfonkgccnaaDoorFw5
set_option linter.unusedVariables false
namespace Go.Fw
section
variable {P : Program} {E : Ent} {N : Nat} {σ σ' : St} {ι : Nat → Loc} {S : Nat → Prop} {a : Act} {w : World} {need : Prop} {v : AV}

theorem tdOf_struct {d : TypeDesc} {fs : List (Nat × TypeId)} (h : tdOf P d = .struct fs) :
    ∃ arr, d = .struct arr ∧ fs = arr.toList.map (fun f => (f.offset, f.type)) ∧ ∀ f ∈ arr.toList, ∃ i, P.info? f.type = some i ∧ i.size ≠ 0 := by
  cases d <;> simp only [tdOf, reduceCtorEq] at h
  rename_i arr
  split at h
  · rename_i hall
    simp only [TD.struct.injEq] at h
    refine ⟨arr, rfl, h.symm, fun f hf => ?_⟩
    rw [Array.all_eq_true'] at hall
    have := hall f (Array.mem_toList_iff.1 hf)
    split at this
    · rename_i i hi; exact ⟨i, hi, by simpa using this⟩
    · cases this
  · cases h
theorem tdOf_int {d : TypeDesc} {k : IntKind} (h : tdOf P d = .int k) : d = .int k := by
  cases d <;> simp only [tdOf, reduceCtorEq, TD.int.injEq] at h
  · rw [h]
  · split at h <;> cases h
theorem tdOf_str {d : TypeDesc} (h : tdOf P d = .str) : d = .string := by
  cases d <;> simp only [tdOf, reduceCtorEq] at h
  · rfl
  · split at h <;> cases h
theorem tdOf_slice {d : TypeDesc} {e : TypeId} (h : tdOf P d = .slice e) : d = .slice e := by
  cases d <;> simp only [tdOf, reduceCtorEq, TD.slice.injEq] at h
  · rw [h]
  · split at h <;> cases h
theorem tdOf_array {d : TypeDesc} {n : Nat} {e : TypeId} (h : tdOf P d = .array n e) : d = .array n e := by
  cases d <;> simp only [tdOf, reduceCtorEq, TD.array.injEq] at h
  · rw [h.1, h.2]
  · split at h <;> cases h
theorem tk_desc {t : TypeId} {sz bytes : Nat} {ag : Bool} {z : FV} {td : TD} (hk : tk P t = some ⟨sz, bytes, ag, z, td⟩) : ∃ d, P.underlying t = some d ∧ tdOf P d = td := by
  obtain ⟨i, d, z, hi, hu, _, _, _, _, hd, _⟩ := tk_spec hk
  exact ⟨d, hu, hd.symm⟩
theorem tk_sz {t : TypeId} {k : TK} (hk : tk P t = some k) : (sizeOf t).run P w = .ok k.sz w := by
  obtain ⟨i, d, z, hi, hu, _, hsz, _⟩ := tk_spec hk
  rw [hsz]; exact sizeOf_run hi

theorem s_fieldAddr (hs : Sim E N σ ι S a w) {o : Oper} {T : TypeId} {x : Operand} {i : Nat} (ho : o.op = .fieldAddr T x i) (h : aFieldAddr σ (ev σ x) (fldAt i (tk P T)) = .val need v σ') (hn : need) : GoodS P σ ι S w (execOp a.eval o) v σ' := by
  have key : ∀ {o' : Nat} {e : TypeId} {b off : Nat}, fldAt i (tk P T) = some (o', e) → (Instr.fieldAt T (.pointer (some ⟨b, off, none⟩)) i).run P w = .ok (.pointer (some ⟨b, off + o', none⟩)) w := by
    intro o' e b off hf
    unfold fldAt at hf
    split at hf
    · rename_i fs hk
      obtain ⟨d, hu, hd⟩ := tk_desc hk
      obtain ⟨arr, rfl, rfl, hall⟩ := tdOf_struct hd
      rw [List.getElem?_map] at hf
      cases hg : arr.toList[i]? with
      | none => rw [hg] at hf; cases hf
      | some f =>
        rw [hg] at hf
        simp only [Option.map_some, Option.some.injEq, Prod.mk.injEq] at hf
        obtain ⟨rfl, rfl⟩ := hf
        obtain ⟨inf, hi, hsz⟩ := hall f (List.mem_of_getElem? hg)
        have hg' : arr[i]? = some f := by simpa using hg
        simp [Instr.fieldAt, run_underlying hu, hg', Instr.sureAddr, fieldPlace, sizeOf_run hi, hsz, add_off]
    · cases hf
  unfold aFieldAddr at h
  split at h
  · rename_i c id off o' e h1 hf
    obtain ⟨rfl, rfl, rfl⟩ := val_inj h
    have e1 := ev_sound hs h1 hn
    simp only [VR] at e1
    obtain ⟨hid, b, hb, e1⟩ := e1
    refine .same hs (y := .pointer (some ⟨b, off + o', none⟩)) ?_ (by simp only [VR]; exact ⟨hid, b, hb, rfl⟩)
    simp [execOp, ho, e1, key hf]
  · rename_i c id sz j off o' e h1 hf
    obtain ⟨rfl, rfl, rfl⟩ := val_inj h
    have e1 := ev_sound hs h1 hn
    simp only [VR] at e1
    obtain ⟨hid, b, hb, e1⟩ := e1
    refine .same hs (y := .pointer (some ⟨b, j * sz + off + o', none⟩)) ?_ (by simp only [VR]; exact ⟨hid, b, hb, by rw [Nat.add_assoc]⟩)
    simp [execOp, ho, e1, key hf]
  · rename_i c x' off o' e h1 hf
    obtain ⟨rfl, rfl, rfl⟩ := val_inj h
    have e1 := ev_sound hs h1 hn
    simp only [VR, FR] at e1
    obtain ⟨b, oo, cs, T', fz, z, e1, hb, hh, hz⟩ := e1
    refine .same hs (y := .pointer (some ⟨b, oo + off + o', none⟩)) ?_ (by simp only [VR, FR]; exact ⟨b, oo, cs, T', fz, z, by rw [Nat.add_assoc], hb, hh, hz⟩)
    simp [execOp, ho, e1, key hf]
  · cases h

theorem arr_drop {vs : Array Value} {o n : Nat} : (vs.extract o (o + n)) = ((vs.toList.drop o).take n).toArray := by
  apply Array.ext'
  simp
theorem part_agg {t : TypeId} {k : TK} (hk : tk P t = some k) (ha : k.agg = true) (vs : Array Value) (o : Nat) : (part t vs o).run P w = .ok (.agg ((vs.toList.drop o).take k.sz).toArray) w := by
  obtain ⟨i, d, z, hi, hu, hz, hsz, _, _, _, _, _, h⟩ := tk_spec hk
  have hd : isAggD d = true := by
    rcases h with h | h
    · exact h.2.2
    · rw [h.1] at ha; cases ha
  unfold part
  simp only [Sem.run_bind, isAgg_run hu, hd, Result.andThen_ok, if_true, sizeOf_run hi, arr_drop, hsz]
  rfl
theorem part_one {t : TypeId} {k : TK} (hk : tk P t = some k) (ha : k.agg = false) {vs : Array Value} {o : Nat} {y : Value} (hy : vs.toList[o]? = some y) : (part t vs o).run P w = .ok y w := by
  obtain ⟨i, d, z, hi, hu, hz, hsz, _, _, _, _, _, h⟩ := tk_spec hk
  have hd : isAggD d = false := by
    rcases h with h | h
    · rw [h.1] at ha; cases ha
    · exact h.2.2.1
  have hy' : vs[o]? = some y := by simpa using hy
  unfold part
  simp [isAgg_run hu, hd, hy']

/-- a part of a struct's or an array's value -/
theorem partOf_sound (hs : Sim E N σ ι S a w) {e : TypeId} {cs : List AV} {vs : Array Value} {o : Nat} {k : TK} (hk : tk P e = some k)
    (hv : VRs S ι σ.n w cs vs.toList) (hone : ∀ z ∈ vs.toList, z.oneCell' = true) {n1 n2 : Prop} (h1 : n1 → o + k.sz ≤ cs.length) (h2 : n2 → o < cs.length)
    (h : ldAgg k.agg n1 n2 (.agg ((cs.drop o).take k.sz)) (cs.getD o (.f k.zero)) σ = .val need v σ') (hn : need) : σ' = σ ∧ ∃ y, (part e vs o).run P w = .ok y w ∧ VR S ι σ.n w v y := by
  unfold ldAgg at h
  split at h <;> rename_i ha <;> obtain ⟨rfl, rfl, rfl⟩ := val_inj h
  · refine ⟨rfl, _, part_agg hk ha vs o, ?_⟩
    simp only [VR]
    exact ⟨_, rfl, (hv.drop o).take k.sz, fun z hz => hone z (List.mem_of_mem_drop (List.mem_of_mem_take hz))⟩
  · obtain ⟨y, hy, hvy⟩ := hv.get (getD_of_lt (h2 hn) (.f k.zero))
    exact ⟨rfl, y, part_one hk ha hy, hvy⟩
theorem partOf_soundF (hs : Sim E N σ ι S a w) {e : TypeId} {cs : List FV} {vs : Array Value} {o : Nat} {k : TK} (hk : tk P e = some k)
    (hv : FRs S w cs vs.toList) (hone : ∀ z ∈ vs.toList, z.oneCell' = true) {n1 n2 : Prop} (h1 : n1 → o + k.sz ≤ cs.length) (h2 : n2 → o < cs.length)
    (h : ldAgg k.agg n1 n2 (.f (.agg ((cs.drop o).take k.sz))) (.f (cs.getD o k.zero)) σ = .val need v σ') (hn : need) : σ' = σ ∧ ∃ y, (part e vs o).run P w = .ok y w ∧ VR S ι σ.n w v y := by
  unfold ldAgg at h
  split at h <;> rename_i ha <;> obtain ⟨rfl, rfl, rfl⟩ := val_inj h
  · refine ⟨rfl, _, part_agg hk ha vs o, ?_⟩
    simp only [VR, FR]
    exact ⟨_, rfl, (hv.drop o).take k.sz, fun z hz => hone z (List.mem_of_mem_drop (List.mem_of_mem_take hz))⟩
  · obtain ⟨y, hy, hvy⟩ := hv.get (getD_of_lt (h2 hn) k.zero)
    exact ⟨rfl, y, part_one hk ha hy, by simpa only [VR] using hvy⟩

theorem s_field (hs : Sim E N σ ι S a w) {o : Oper} {T : TypeId} {x : Operand} {i : Nat} (ho : o.op = .field T x i) (h : aField (tk P) σ (ev σ x) (fldAt i (tk P T)) = .val need v σ') (hn : need) : GoodS P σ ι S w (execOp a.eval o) v σ' := by
  have key : ∀ {o' : Nat} {e : TypeId} {vs : Array Value} {y : Value}, fldAt i (tk P T) = some (o', e) → (part e vs o').run P w = .ok y w → (Instr.field T (.agg vs) i).run P w = .ok y w := by
    intro o' e vs y hf hp
    unfold fldAt at hf
    split at hf
    · rename_i fs hk
      obtain ⟨d, hu, hd⟩ := tk_desc hk
      obtain ⟨arr, rfl, rfl, hall⟩ := tdOf_struct hd
      rw [List.getElem?_map] at hf
      cases hg : arr.toList[i]? with
      | none => rw [hg] at hf; cases hf
      | some f =>
        rw [hg] at hf
        simp only [Option.map_some, Option.some.injEq, Prod.mk.injEq] at hf
        obtain ⟨rfl, rfl⟩ := hf
        have hg' : arr[i]? = some f := by simpa using hg
        simp [Instr.field, run_underlying hu, hg', asAgg, hp]
    · cases hf
  unfold aField at h
  split at h
  · rename_i c cs o' e h1 hf
    unfold partOf at h
    split at h
    · rename_i k hk
      have hc : c = true := by
        unfold ldAgg at h
        split at h <;> (obtain ⟨rfl, rfl, rfl⟩ := val_inj h; exact hn.1)
      have e1 := ev_sound hs h1 hc
      simp only [VR] at e1
      obtain ⟨vs, e1, hv, hone⟩ := e1
      obtain ⟨rfl, y, hp, hvy⟩ := partOf_sound hs hk hv hone (fun h => h.2) (fun h => h.2) h hn
      exact .same hs (by simp [execOp, ho, e1, key hf hp]) hvy
    · cases h
  · rename_i c cs o' e h1 hf
    split at h
    · rename_i k hk
      have hc : c = true := by
        unfold ldAgg at h
        split at h <;> (obtain ⟨rfl, rfl, rfl⟩ := val_inj h; exact hn.1)
      have e1 := ev_sound hs h1 hc
      simp only [VR, FR] at e1
      obtain ⟨vs, e1, hv, hone⟩ := e1
      obtain ⟨rfl, y, hp, hvy⟩ := partOf_soundF hs hk hv hone (fun h => h.2) (fun h => h.2) h hn
      exact .same hs (by simp [execOp, ho, e1, key hf hp]) hvy
    · cases h
  · cases h

theorem s_indexAddr (hs : Sim E N σ ι S a w) {o : Oper} {T : TypeId} {x i : Operand} (ho : o.op = .indexAddr T x i) (h : aIndexAddr (tk P) σ (ev σ x) (ev σ i) (tk P T) = .val need v σ') (hn : need) : GoodS P σ ι S w (execOp a.eval o) v σ' := by
  unfold aIndexAddr at h
  split at h
  · rename_i c u d kk n _ _ _ _ e h1 h2 hk
    obtain ⟨dd, hu, hd⟩ := tk_desc hk
    have hd := tdOf_slice hd; subst hd
    unfold idxAddrE at h
    split at h
    · rename_i sz xs k hke
      obtain ⟨rfl, rfl, rfl⟩ := val_inj h
      obtain ⟨⟨hc, hdd⟩, h0, hlt, hsz⟩ := hn
      have e1 := ev_sound hs h1 hc
      have e2 := vr_int (ev_sound hs h2 hdd)
      have hlt' : n.toNat < xs.length := by omega
      simp only [VR, FR] at e1
      rcases e1 with ⟨rfl, _⟩ | ⟨b, oo, cp, cs, T', fz, e1, hb, hh, hr, _⟩
      · simp at hlt'
      obtain ⟨y, hy1, hy2, hy3, hy4⟩ := hr.get (getD_of_lt hlt' k.zero)
      refine .same hs (y := .pointer (some ⟨b, oo + n.toNat * sz, none⟩)) ?_ ?_
      · simp [execOp, ho, e1, e2, Instr.indexAt, asIntOf, run_underlying hu, h0, hlt, tk_sz hke, hsz, add_off]
      · simp only [VR, FR]
        refine ⟨b, oo + n.toNat * sz, cs, T', fz, y, by simp, hb, hh, hy1, ?_, hy4⟩
        rw [hy2, hy3, List.drop_drop]
    · rename_i id sz off len k hke
      obtain ⟨rfl, rfl, rfl⟩ := val_inj h
      obtain ⟨⟨hc, hdd⟩, h0, hlt, hsz⟩ := hn
      have e1 := ev_sound hs h1 hc
      have e2 := vr_int (ev_sound hs h2 hdd)
      have hlt' : n.toNat < len := by omega
      simp only [VR] at e1
      obtain ⟨hid, ⟨_, _, rfl, _⟩ | ⟨b, oo, hb, hcap, hoo, _, e1⟩⟩ := e1
      · omega
      have hoo := hoo (by omega)
      subst hoo
      refine .same hs (y := .pointer (some ⟨b, off * sz + n.toNat * sz, none⟩)) ?_ ?_
      · simp [execOp, ho, e1, e2, Instr.indexAt, asIntOf, run_underlying hu, h0, hlt, tk_sz hke, hsz, add_off]
      · simp only [VR]
        exact ⟨hid, b, hb, by rw [Nat.add_zero, Nat.add_mul]⟩
    · cases h
  · rename_i c u d kk n _ _ _ _ len e h1 h2 hk
    obtain ⟨dd, hu, hd⟩ := tk_desc hk
    have hd := tdOf_array hd; subst hd
    unfold arrAddrE at h
    split at h
    · rename_i id off k hke
      obtain ⟨rfl, rfl, rfl⟩ := val_inj h
      obtain ⟨⟨hc, hdd⟩, h0, hlt⟩ := hn
      have e1 := ev_sound hs h1 hc
      have e2 := vr_int (ev_sound hs h2 hdd)
      simp only [VR] at e1
      obtain ⟨hid, b, hb, e1⟩ := e1
      refine .same hs (y := .pointer (some ⟨b, off + n.toNat * k.sz, none⟩)) ?_ (by simp only [VR]; exact ⟨hid, b, hb, rfl⟩)
      simp [execOp, ho, e1, e2, Instr.indexAt, asIntOf, run_underlying hu, h0, hlt, tk_sz hke, add_off, Instr.sureAddr]
    · rename_i id sz j off k hke
      obtain ⟨rfl, rfl, rfl⟩ := val_inj h
      obtain ⟨⟨hc, hdd⟩, h0, hlt⟩ := hn
      have e1 := ev_sound hs h1 hc
      have e2 := vr_int (ev_sound hs h2 hdd)
      simp only [VR] at e1
      obtain ⟨hid, b, hb, e1⟩ := e1
      refine .same hs (y := .pointer (some ⟨b, j * sz + off + n.toNat * k.sz, none⟩)) ?_ (by simp only [VR]; exact ⟨hid, b, hb, by rw [Nat.add_assoc]⟩)
      simp [execOp, ho, e1, e2, Instr.indexAt, asIntOf, run_underlying hu, h0, hlt, tk_sz hke, add_off, Instr.sureAddr]
    · rename_i x' off k hke
      obtain ⟨rfl, rfl, rfl⟩ := val_inj h
      obtain ⟨⟨hc, hdd⟩, h0, hlt⟩ := hn
      have e1 := ev_sound hs h1 hc
      have e2 := vr_int (ev_sound hs h2 hdd)
      simp only [VR, FR] at e1
      obtain ⟨b, oo, cs, T', fz, z, e1, hb, hh, hz⟩ := e1
      refine .same hs (y := .pointer (some ⟨b, oo + off + n.toNat * k.sz, none⟩)) ?_ (by simp only [VR, FR]; exact ⟨b, oo, cs, T', fz, z, by rw [Nat.add_assoc], hb, hh, hz⟩)
      simp [execOp, ho, e1, e2, Instr.indexAt, asIntOf, run_underlying hu, h0, hlt, tk_sz hke, add_off, Instr.sureAddr]
    · cases h
  · cases h

theorem s_index (hs : Sim E N σ ι S a w) {o : Oper} {T : TypeId} {x i : Operand} (ho : o.op = .index T x i) (h : aIndex (tk P) σ (ev σ x) (ev σ i) (tk P T) = .val need v σ') (hn : need) : GoodS P σ ι S w (execOp a.eval o) v σ' := by
  have arr : ∀ {c d : Bool} {kk : IntKind} {n : Int} {len : Nat} {e : TypeId} {cs : List AV} {vs : Array Value} {q1 q2 : Nat} {q3 : Bool} {q4 : FV}, tk P T = some ⟨q1, q2, q3, q4, .array len e⟩ → arrIdx σ (c = true ∧ d = true) n len cs (tk P e) = .val need v σ' →
      (c = true → a.eval x = .agg vs ∧ VRs S ι σ.n w cs vs.toList ∧ ∀ z ∈ vs.toList, z.oneCell' = true) → (d = true → a.eval i = .int kk n) → GoodS P σ ι S w (execOp a.eval o) v σ' := by
    intro c d kk n len e cs vs q1 q2 q3 q4 hk h ex ei
    obtain ⟨dd, hu, hd⟩ := tk_desc hk
    have hd := tdOf_array hd; subst hd
    unfold arrIdx at h
    split at h
    · rename_i k hke
      have hcd : (c = true ∧ d = true) ∧ 0 ≤ n ∧ n < len := by
        unfold ldAgg at h
        split at h <;> (obtain ⟨rfl, rfl, rfl⟩ := val_inj h; exact ⟨hn.1, hn.2.1, hn.2.2.1⟩)
      obtain ⟨⟨hc, hdd⟩, h0, hlt⟩ := hcd
      obtain ⟨ex1, hv, hone⟩ := ex hc
      have ei1 := ei hdd
      obtain ⟨rfl, y, hp, hvy⟩ := partOf_sound hs hke hv hone (fun h => h.2.2.2) (fun h => h.2.2.2) h hn
      exact .same hs (by simp [execOp, ho, ex1, ei1, Instr.index, asIntOf, run_underlying hu, h0, hlt, tk_sz hke, hp]) hvy
    · cases h
  unfold aIndex at h
  split at h
  · rename_i c s d kk n _ _ _ _ h1 h2 hk
    obtain ⟨rfl, rfl, rfl⟩ := val_inj h
    obtain ⟨hc, hdd, h0, hlt⟩ := hn
    obtain ⟨dd, hu, hd⟩ := tk_desc hk
    have hd := tdOf_str hd; subst hd
    have e1 := vr_v (ev_sound hs h1 hc)
    have e2 := vr_int (ev_sound hs h2 hdd)
    have hlt' : n.toNat < (bl s).length := by omega
    have hg : s[n.toNat]? = some ((bl s).getD n.toNat 0) := by
      have hsz : n.toNat < s.size := by rw [size_bl]; exact hlt'
      rw [getElem?_pos s n.toNat hsz, Option.some.injEq]
      simp only [bl, List.getD]
      rw [List.getElem?_eq_getElem (by simpa [bl] using hlt')]
      rfl
    exact .same hs (y := .int .u8 ((bl s).getD n.toNat 0).toNat) (by simp only [execOp, ho, e1, e2, Instr.index, asIntOf, Sem.run_bind, Sem.run_pure, Result.andThen_ok, run_underlying hu, h0, if_true, hg]) (mk_v rfl)
  · rename_i c cs d kk n _ _ _ _ len e h1 h2 hk
    by_cases hc : c = true
    · have e1 := ev_sound hs h1 hc
      simp only [VR] at e1
      obtain ⟨vs, e1, hv, hone⟩ := e1
      exact arr hk h (fun _ => ⟨e1, hv, hone⟩) (fun hd => vr_int (ev_sound hs h2 hd))
    · exact arr (vs := #[]) hk h (fun h => absurd h hc) (fun hd => vr_int (ev_sound hs h2 hd))
  · rename_i c cs d kk n _ _ _ _ len e h1 h2 hk
    by_cases hc : c = true
    · have e1 := ev_sound hs h1 hc
      simp only [VR, FR] at e1
      obtain ⟨vs, e1, hv, hone⟩ := e1
      exact arr hk h (fun _ => ⟨e1, VRs_map_f.2 hv, hone⟩) (fun hd => vr_int (ev_sound hs h2 hd))
    · exact arr (vs := #[]) hk h (fun h => absurd h hc) (fun hd => vr_int (ev_sound hs h2 hd))
  · cases h

theorem s_extract (hs : Sim E N σ ι S a w) {o : Oper} {x : Operand} {i : Nat} (ho : o.op = .extract x i) (h : aExtract σ i (ev σ x) = .val need v σ') (hn : need) : GoodS P σ ι S w (execOp a.eval o) v σ' := by
  unfold aExtract at h
  split at h
  · rename_i c vs h1
    unfold aMove at h
    split at h
    · rename_i c' u hu
      split at hu
      · rename_i u' hg
        simp only [Option.some.injEq, Prod.mk.injEq] at hu
        obtain ⟨rfl, rfl⟩ := hu
        obtain ⟨rfl, rfl, rfl⟩ := val_inj h
        have e1 := ev_sound hs h1 hn
        simp only [VR] at e1
        obtain ⟨ys, e1, hv⟩ := e1
        obtain ⟨y, hy, hvy⟩ := hv.get hg
        have hy' : ys[i]? = some y := by simpa using hy
        exact .same hs (y := y) (by simp [execOp, ho, e1, Instr.extract, hy']) hvy
      · cases hu
    · cases h
  · rename_i c vs h1
    unfold aMove at h
    split at h
    · rename_i c' u hu
      split at hu
      · rename_i u' hg
        simp only [Option.some.injEq, Prod.mk.injEq] at hu
        obtain ⟨rfl, rfl⟩ := hu
        obtain ⟨rfl, rfl, rfl⟩ := val_inj h
        have e1 := ev_sound hs h1 hn
        simp only [VR, FR] at e1
        obtain ⟨ys, e1, hv⟩ := e1
        obtain ⟨y, hy, hvy⟩ := hv.get hg
        have hy' : ys[i]? = some y := by simpa using hy
        exact .same hs (y := y) (by simp [execOp, ho, e1, Instr.extract, hy']) (by simpa only [VR] using hvy)
      · cases hu
    · cases h
  · cases h

theorem s_len (hs : Sim E N σ ι S a w) {o : Oper} {T U : TypeId} {x : Operand} (ho : execOp a.eval o = (do let v ← builtin .len #[T] U #[] #[a.eval x]; pure v)) (h : aLen σ (ev σ x) (tk P T) = .val need v σ') (hn : need) : GoodS P σ ι S w (execOp a.eval o) v σ' := by
  rw [ho]
  unfold aLen at h
  split at h
  · rename_i c s _ _ _ _ h1 hk
    obtain ⟨rfl, rfl, rfl⟩ := val_inj h
    obtain ⟨dd, hu, hd⟩ := tk_desc hk
    have hd := tdOf_str hd; subst hd
    have e1 := vr_v (ev_sound hs h1 hn)
    exact .same hs (y := .int .i64 (bl s).length) (by simp [builtin, Builtin.len_, e1, run_underlying hu, goInt, size_bl]) (mk_v rfl)
  · rename_i c sz xs _ _ _ _ e h1 hk
    obtain ⟨rfl, rfl, rfl⟩ := val_inj h
    obtain ⟨dd, hu, hd⟩ := tk_desc hk
    have hd := tdOf_slice hd; subst hd
    have e1 := ev_sound hs h1 hn
    simp only [VR, FR] at e1
    refine .same hs (y := .int .i64 xs.length) ?_ (mk_v rfl)
    rcases e1 with ⟨rfl, a', c', e1⟩ | ⟨b, oo, cp, cs, T', fz, e1, _⟩ <;> simp [builtin, Builtin.len_, e1, run_underlying hu, goInt]
  · rename_i c _ _ _ _ e h1 hk
    obtain ⟨rfl, rfl, rfl⟩ := val_inj h
    obtain ⟨dd, hu, hd⟩ := tk_desc hk
    have hd := tdOf_slice hd; subst hd
    have e1 := vr_v (ev_sound hs h1 hn)
    exact .same hs (y := .int .i64 0) (by simp [builtin, Builtin.len_, e1, run_underlying hu, goInt]) (mk_v rfl)
  · rename_i c id sz off len _ _ _ _ e h1 hk
    obtain ⟨rfl, rfl, rfl⟩ := val_inj h
    obtain ⟨dd, hu, hd⟩ := tk_desc hk
    have hd := tdOf_slice hd; subst hd
    have e1 := ev_sound hs h1 hn
    simp only [VR] at e1
    refine .same hs (y := .int .i64 len) ?_ (mk_v rfl)
    obtain ⟨_, ⟨_, _, rfl, _, e1⟩ | ⟨b, oo, _, _, _, _, e1⟩⟩ := e1 <;> simp [builtin, Builtin.len_, e1, run_underlying hu, goInt]
  · cases h
end
end Go.Fw
