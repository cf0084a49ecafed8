/-
  Fw8: each operation in the abstract machine is the model's (slices of slices, builds, releases).
-/
import Derived.Test.YtddbbfonkgccnaaDoorFw7
import Derived.Lib.Strings
set_option linter.unusedVariables false
namespace Go.Fw
section
variable {P : Program} {E : Ent} {N : Nat} {σ σ' : St} {ι : Nat → Loc} {S : Nat → Prop} {a : Act} {w : World} {need : Prop} {v : AV}

theorem bnds_sound (hs : Sim E N σ ι S a w) {len cap : Nat} {lo hi : Option Operand} {n : Prop} {l h : Nat} (isSlice : Bool) (hb : bnds σ len lo hi = some (n, l, h)) (hn : n) (hc : len ≤ cap) :
    (Instr.sliceBounds isSlice len cap (lo.map a.eval) (hi.map a.eval) none).run P w = .ok (l, h, cap) w ∧ l ≤ h ∧ h ≤ len := by
  unfold bnds at hb
  split at hb
  · simp only [Option.some.injEq, Prod.mk.injEq] at hb
    obtain ⟨rfl, rfl, rfl⟩ := hb
    simp [Instr.sliceBounds]
  · rename_i lx
    split at hb
    · rename_i c kk m h1
      simp only [Option.some.injEq, Prod.mk.injEq] at hb
      obtain ⟨rfl, rfl, rfl⟩ := hb
      have e1 := vr_v (ev_sound hs h1 hn.1)
      refine ⟨?_, by omega, by omega⟩
      simp [Instr.sliceBounds, e1, run_sliceBound w kk m len _ hn.2.1 hn.2.2]
    · cases hb
  · rename_i hx
    split at hb
    · rename_i c kk m h1
      simp only [Option.some.injEq, Prod.mk.injEq] at hb
      obtain ⟨rfl, rfl, rfl⟩ := hb
      have e1 := vr_v (ev_sound hs h1 hn.1)
      refine ⟨?_, by omega, by omega⟩
      simp [Instr.sliceBounds, e1, run_sliceBound w kk m cap _ hn.2.1 (by omega)]
    · cases hb
  · rename_i lx hx
    split at hb
    · rename_i c kk m d kk' m' h1 h2
      simp only [Option.some.injEq, Prod.mk.injEq] at hb
      obtain ⟨rfl, rfl, rfl⟩ := hb
      have e1 := vr_v (ev_sound hs h1 hn.1)
      have e2 := vr_v (ev_sound hs h2 hn.2.1)
      refine ⟨?_, by omega, by omega⟩
      simp [Instr.sliceBounds, e1, e2, run_sliceBound w kk' m' cap _ (by omega) (by omega), run_sliceBound w kk m m'.toNat _ hn.2.2.1 (by omega)]
    · cases hb

theorem extract_bl (s : ByteArray) (l h : Nat) (hle : l ≤ h) : s.extract l h = ⟨⟨((bl s).take h).drop l⟩⟩ := by
  apply ByteArray.ext
  apply Array.ext'
  have := Lib.extract_data s l h
  rw [this, List.drop_take]
  rfl

theorem s_slice (hs : Sim E N σ ι S a w) {o : Oper} {T : TypeId} {x : Operand} {lo hi : Option Operand} (ho : o.op = .slice T x lo hi none) (h : aSlice (tk P) σ lo hi (ev σ x) (tk P T) = .val need v σ') (hn : need) : GoodS P σ ι S w (execOp a.eval o) v σ' := by
  unfold aSlice at h
  split at h
  · rename_i c s _ _ _ _ h1 hk
    obtain ⟨dd, hu, hd⟩ := tk_desc hk
    have := tdOf_str hd; subst this
    unfold slStr at h
    split at h
    · rename_i n l hh hb
      obtain ⟨rfl, rfl, rfl⟩ := val_inj h
      have e1 := vr_v (ev_sound hs h1 hn.1)
      obtain ⟨hr, hlh, _⟩ := bnds_sound (P := P) (cap := (bl s).length) hs false hb hn.2 (Nat.le_refl _)
      refine .same hs (y := str (((bl s).take hh).drop l)) ?_ (mk_v rfl)
      rw [← size_bl] at hr
      simp only [execOp, ho, e1, Instr.sliceAt, Sem.run_bind, run_underlying hu, Result.andThen_ok, Instr.slice, Option.map_none, Option.isSome_none, Bool.false_eq_true, if_false, hr, Sem.run_pure, extract_bl s l hh hlh]
    · cases h
  · rename_i c sz xs _ _ _ _ e h1 hk
    obtain ⟨dd, hu, hd⟩ := tk_desc hk
    have := tdOf_slice hd; subst this
    unfold slF at h
    split at h
    · rename_i n l hh k hb hke
      obtain ⟨rfl, rfl, rfl⟩ := val_inj h
      obtain ⟨hc, hnb, hsz⟩ := hn
      have e1 := ev_sound hs h1 hc
      simp only [VR, FR] at e1
      have hrun : ∀ {p : Option Addr} {cap : Nat}, xs.length ≤ cap → a.eval x = .slice p xs.length cap → (execOp a.eval o).run P w = .ok (.value (.slice (if cap = l then p else p.map (·.add (l * sz))) (hh - l) (cap - l))) w := by
        intro p cap hcap ex
        obtain ⟨hr, hlh, _⟩ := bnds_sound (P := P) (cap := cap) hs true hb hnb hcap
        simp only [execOp, ho, ex, Instr.sliceAt, Sem.run_bind, run_underlying hu, Result.andThen_ok, Instr.slice, Option.map_none, hr, tk_sz hke, hsz, Sem.run_pure]
      rcases e1 with ⟨rfl, p, cap, ex⟩ | ⟨b, oo, cap, cs, T', fz, ex, hb', hh', hr, hle⟩
      · refine .same hs (hrun (by simp) ex) ?_
        obtain ⟨_, hlh, hhl⟩ := bnds_sound (P := P) (cap := 0) hs true hb hnb (by simp)
        simp only [List.length_nil, Nat.le_zero] at hhl
        subst hhl
        have : l = 0 := by omega
        subst this
        simp only [VR, FR]
        exact .inl ⟨by simp, _, _, rfl⟩
      · refine .same hs (hrun hle ex) ?_
        obtain ⟨_, hlh, hhl⟩ := bnds_sound (P := P) (cap := cap) hs true hb hnb hle
        simp only [VR, FR]
        by_cases he : ((xs.take hh).drop l) = []
        · have := congrArg List.length he
          simp at this
          exact .inl ⟨he, (if cap = l then some ⟨b, oo, none⟩ else Option.map (fun x : Addr => x.add (l * sz)) (some ⟨b, oo, none⟩)), cap - l, by rw [show hh - l = 0 by omega]⟩
        · right
          have hlen : ((xs.take hh).drop l).length = hh - l := by simp; omega
          have hne : l < hh := by
            rcases Nat.lt_or_ge l hh with h | h
            · exact h
            · exact absurd (List.eq_nil_of_length_eq_zero (by rw [hlen]; omega)) he
          refine ⟨b, oo + l * sz, cap - l, cs, T', fz, ?_, hb', hh', ?_, by rw [hlen]; omega⟩
          · rw [if_neg (by omega), hlen]; simp [add_off]
          · have := (hr.take hh).drop l
            rwa [List.drop_drop] at this
    · cases h
  · rename_i c id sz off len _ _ _ _ e h1 hk
    obtain ⟨dd, hu, hd⟩ := tk_desc hk
    have := tdOf_slice hd; subst this
    unfold slO at h
    split at h
    · rename_i n l hh k hb hke
      obtain ⟨rfl, rfl, rfl⟩ := val_inj h
      obtain ⟨hc, hnb, hsz⟩ := hn
      have e1 := ev_sound hs h1 hc
      simp only [VR] at e1
      obtain ⟨hid, ⟨hbn, rfl, rfl, hcap, ex⟩ | ⟨b, oo, hbn, hcap, hoo, hoz, ex⟩⟩ := e1
      · obtain ⟨hr, hlh, hhl⟩ := bnds_sound (P := P) (cap := 0) hs true hb hnb (by simp)
        have h0 : hh = 0 := by omega
        subst h0
        have : l = 0 := by omega
        subst this
        refine .same hs (y := .slice none 0 0) ?_ (by simp [VR, hid, hbn, hcap])
        simp [execOp, ho, ex, Instr.sliceAt, run_underlying hu, Instr.slice, hr, tk_sz hke, hsz]
      · obtain ⟨hr, hlh, hhl⟩ := bnds_sound (P := P) (cap := (ι id).cap - off) hs true hb hnb (by omega)
        refine .same hs (y := .slice (if (ι id).cap - off = l then some ⟨b, oo, none⟩ else (some (⟨b, oo, none⟩ : Addr)).map (·.add (l * sz))) (hh - l) ((ι id).cap - off - l)) ?_ ?_
        · simp only [execOp, ho, ex, Instr.sliceAt, Sem.run_bind, run_underlying hu, Result.andThen_ok, Instr.slice, Option.map_none, hr, tk_sz hke, hsz, Sem.run_pure]
        · simp only [VR]
          refine ⟨hid, .inr ?_⟩
          by_cases heq : (ι id).cap - off = l
          · rw [if_pos heq]
            refine ⟨b, oo, hbn, by omega, by omega, fun h0 => hoz (by omega), by rw [show (ι id).cap - off - l = (ι id).cap - (off + l) by omega]⟩
          · rw [if_neg heq]
            have hoo := hoo (by omega)
            refine ⟨b, oo + l * sz, hbn, by omega, fun _ => by rw [hoo, Nat.add_mul], fun h0 => ?_, by simp [add_off, Nat.sub_sub]⟩
            have h1 : off = 0 := by omega
            have h2 : l = 0 := by omega
            rw [hoo, h1, h2]; simp
    · cases h
  · cases h

/- writing a stretch of a list -/
theorem writeAt_len {α : Type} : ∀ (vs cs : List α) (off : Nat), (writeAt cs off vs).length = cs.length
  | [], cs, off => rfl
  | v :: vs, cs, off => by rw [writeAt, writeAt_len vs]; simp
theorem writeAt_map {α β : Type} (f : α → β) : ∀ (vs cs : List α) (off : Nat), (writeAt cs off vs).map f = writeAt (cs.map f) off (vs.map f)
  | [], cs, off => rfl
  | v :: vs, cs, off => by rw [writeAt, writeAt_map f vs, List.map_set]; rfl
theorem writeAt_eq {α : Type} : ∀ (vs cs : List α) (off : Nat), off + vs.length ≤ cs.length → writeAt cs off vs = cs.take off ++ vs ++ cs.drop (off + vs.length)
  | [], cs, off, _ => by simp [writeAt]
  | v :: vs, cs, off, h => by
    simp only [List.length_cons] at h
    rw [writeAt, writeAt_eq vs _ _ (by simp; omega)]
    rw [List.take_set, List.drop_set_of_lt (by omega), List.take_add_one, List.getElem?_eq_getElem (by omega)]
    rw [List.set_append_right _ _ (by simp; omega)]
    simp [Nat.min_eq_left (show off ≤ cs.length by omega), show off + 1 + vs.length = off + (vs.length + 1) by omega]
theorem VRs.set {n : Nat} : ∀ {xs : List AV} {ys : List Value} {i : Nat} {x : AV} {y : Value}, VRs S ι n w xs ys → VR S ι n w x y → VRs S ι n w (xs.set i x) (ys.set i y)
  | [], _, i, x, y, h, _ => by simp only [VRs] at h; subst h; simp [VRs]
  | x0 :: xs, _, 0, x, y, h, hx => by
    simp only [VRs] at h
    obtain ⟨y0, ys', rfl, h1, h2⟩ := h
    simp only [List.set_cons_zero, VRs]
    exact ⟨y, ys', rfl, hx, h2⟩
  | x0 :: xs, _, i + 1, x, y, h, hx => by
    simp only [VRs] at h
    obtain ⟨y0, ys', rfl, h1, h2⟩ := h
    simp only [List.set_cons_succ, VRs]
    exact ⟨y0, _, rfl, h1, h2.set hx⟩
theorem VRs.writeAt {n : Nat} : ∀ {vs xs : List AV} {us ys : List Value} {off : Nat}, VRs S ι n w xs ys → VRs S ι n w vs us → VRs S ι n w (writeAt xs off vs) (writeAt ys off us)
  | [], _, _, _, _, h, h' => by simp only [VRs] at h'; subst h'; exact h
  | v :: vs, _, _, _, off, h, h' => by
    simp only [VRs] at h'
    obtain ⟨u, us, rfl, h1, h2⟩ := h'
    rw [Go.Fw.writeAt, Go.Fw.writeAt]
    exact VRs.writeAt (h.set h1) h2
theorem FRs.writeAt {vs xs : List FV} {us ys : List Value} {off : Nat} (h : FRs S w xs ys) (h' : FRs S w vs us) : FRs S w (writeAt xs off vs) (writeAt ys off us) := by
  have := VRs.writeAt (ι := fun _ => ⟨none, 0⟩) (n := 0) (off := off) (VRs_map_f.2 h) (VRs_map_f.2 h')
  rw [← writeAt_map] at this
  exact VRs_map_f.1 this
theorem mem_writeAt {α : Type} : ∀ {vs cs : List α} {off : Nat} {z : α}, z ∈ writeAt cs off vs → z ∈ cs ∨ z ∈ vs
  | [], cs, off, z, h => .inl h
  | v :: vs, cs, off, z, h => by
    rw [writeAt] at h
    rcases mem_writeAt h with h | h
    · rcases List.mem_or_eq_of_mem_set h with h | h
      · exact .inl h
      · exact .inr (by simp [h])
    · exact .inr (by simp [h])

/-- the model's filling of a row of cells -/
theorem fold_write (off : Nat) : ∀ (l : List Value) (j : Nat) (cells : Array Value),
    ((l.zipIdx j).foldl (fun cs p => cs.setIfInBounds (off + p.2) p.1) cells).toList = writeAt cells.toList (off + j) l
  | [], j, cells => by simp [writeAt]
  | v :: l, j, cells => by
    rw [List.zipIdx_cons, List.foldl_cons, fold_write off l (j + 1), writeAt]
    simp [Nat.add_assoc]
theorem fold_write' (off : Nat) (v cells : Array Value) : v.zipIdx.foldl (fun cs (c, j) => cs.setIfInBounds (off + j) c) cells = (writeAt cells.toList off v.toList).toArray := by
  apply Array.ext'
  have h := fold_write off v.toList 0 cells
  rw [← Array.foldl_toList]
  simpa using h

theorem cells_VR {x : AV} {y : Value} {n : Nat} (h : VR S ι n w x y) (h1 : x.cells.all AV.one = true) : VRs S ι n w x.cells y.cells.toList ∧ ∀ z ∈ y.cells.toList, z.oneCell' = true := by
  have one : x.cells = [x] → x.one = true → VRs S ι n w x.cells y.cells.toList ∧ ∀ z ∈ y.cells.toList, z.oneCell' = true := by
    intro hc h1
    have hy : y.cells = #[y] ∧ y.oneCell' = true := by
      cases x with
      | f x =>
        simp only [VR] at h
        rcases FR.one_or h with ⟨xs, ys, rfl, _⟩ | ⟨xs, ys, rfl, _⟩ | ⟨_, h2, h3⟩
        · simp [AV.one] at h1
        · simp [AV.one] at h1
        · exact ⟨h2, h3⟩
      | agg _ => simp [AV.one] at h1
      | tup _ => simp [AV.one] at h1
      | g _ => simp [AV.one] at h1
      | ptr _ _ => simp only [VR] at h; obtain ⟨_, b, _, rfl⟩ := h; exact ⟨rfl, rfl⟩
      | rp _ _ _ _ => simp only [VR] at h; obtain ⟨_, b, _, rfl⟩ := h; exact ⟨rfl, rfl⟩
      | sl _ _ _ _ => simp only [VR] at h; obtain ⟨_, ⟨_, _, _, _, rfl⟩ | ⟨b, oo, _, _, _, _, rfl⟩⟩ := h <;> exact ⟨rfl, rfl⟩
      | mp _ => simp only [VR] at h; obtain ⟨_, b, _, rfl⟩ := h; exact ⟨rfl, rfl⟩
      | it _ => simp only [VR] at h; obtain ⟨_, b, _, rfl⟩ := h; exact ⟨rfl, rfl⟩
      | clo _ _ _ => simp only [VR] at h; obtain ⟨fs, cs, rfl, _⟩ := h; exact ⟨rfl, rfl⟩
    rw [hc, hy.1]
    refine ⟨by simp only [VRs]; exact ⟨y, [], rfl, h, rfl⟩, by simpa using hy.2⟩
  cases x with
  | agg xs =>
    simp only [VR] at h
    obtain ⟨ys, rfl, h2, h3⟩ := h
    exact ⟨h2, h3⟩
  | f x =>
    cases x with
    | agg xs =>
      simp only [VR, FR] at h
      obtain ⟨ys, rfl, h2, h3⟩ := h
      exact ⟨VRs_map_f.2 h2, h3⟩
    | _ => exact one rfl (by simpa [AV.cells] using h1)
  | _ => exact one rfl (by simpa [AV.cells] using h1)
end
end Go.Fw
