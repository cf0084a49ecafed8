/-
  Fw21: structs and arrays held against one another, by their cells.
-/
import Derived.Test.YtddbbfonkgccnaaDoorFw20
import Derived.DeepKeys
set_option linter.unusedVariables false
namespace Go.Fw
open Go

/-- what of a value's cells is compared, in order -/
def cmpL (P : Program) : Nat → TypeId → List Value → Option (List Value)
  | 0, _, _ => none
  | d + 1, t, cs => match P.underlying t, cs with
    | some .bool, [.bool b] => some [.bool b]
    | some (.int q), [.int q' n] => if q' = q then some [.int q n] else none
    | some .string, [.string s] => some [.string s]
    | some (.array n e), cs => if cs.length = P.cellsOf t ∧ (P.info? e).isSome = true then ((List.range n).mapM fun i => cmpL P d e ((cs.drop (i * P.cellsOf e)).take (P.cellsOf e))).map List.flatten else none
    | some (.struct fs), cs => if cs.length = P.cellsOf t ∧ fs.all (·.name != "_") = true ∧ P.stoodInHeld t = false then (fs.toList.mapM fun f => cmpL P d f.type ((cs.drop f.offset).take (P.cellsOf f.type))).map List.flatten else none
    | _, _ => none
def fitC (P : Program) (t : TypeId) (x : Value) : Prop := match P.underlying t with
  | some (.array _ _) => ∃ zs, x = .agg zs
  | some (.struct _) => ∃ zs, x = .agg zs
  | _ => x.cells.toList = [x]

section
variable {P : Program}
theorem cmpL_bool {d : Nat} {t : TypeId} {cs l : List Value} (hu : P.underlying t = some .bool) (h : cmpL P (d + 1) t cs = some l) : ∃ b, cs = [.bool b] ∧ l = [.bool b] := by
  unfold cmpL at h
  rw [hu] at h
  match cs, h with
  | [.bool b], h => exact ⟨b, rfl, by simpa using h.symm⟩
theorem cmpL_int {d : Nat} {t : TypeId} {q : IntKind} {cs l : List Value} (hu : P.underlying t = some (.int q)) (h : cmpL P (d + 1) t cs = some l) : ∃ n, cs = [.int q n] ∧ l = [.int q n] := by
  unfold cmpL at h
  rw [hu] at h
  match cs, h with
  | [.int q' n], h =>
    simp only at h
    split at h
    · rename_i e; subst e; exact ⟨n, rfl, by simpa using h.symm⟩
    · cases h
theorem cmpL_string {d : Nat} {t : TypeId} {cs l : List Value} (hu : P.underlying t = some .string) (h : cmpL P (d + 1) t cs = some l) : ∃ b, cs = [.string b] ∧ l = [.string b] := by
  unfold cmpL at h
  rw [hu] at h
  match cs, h with
  | [.string b], h => exact ⟨b, rfl, by simpa using h.symm⟩

def EqV (P : Program) (dd d : Nat) (t : TypeId) : Prop := ∀ (w : World) (x y : Value) (lx ly : List Value), fitC P t x → fitC P t y → cmpL P d t x.cells.toList = some lx → cmpL P d t y.cells.toList = some ly →
  lx.length = ly.length ∧ ∃ r : Bool, (Op.equalIn dd t x y).run P w = .ok r w ∧ (r = true ↔ lx = ly)

theorem part_c {w : World} {d off : Nat} {e : TypeId} {xs : Array Value} {la : List Value} (ha : cmpL P d e ((xs.toList.drop off).take (P.cellsOf e)) = some la) :
    ∃ a, (part e xs off).run P w = .ok a w ∧ fitC P e a ∧ a.cells.toList = (xs.toList.drop off).take (P.cellsOf e) := by
  cases d with
  | zero => simp [cmpL] at ha
  | succ d =>
    cases hu : P.underlying e with
    | none => simp [cmpL, hu] at ha
    | some kd =>
      have hl : (xs.extract off (off + P.cellsOf e)).toList = (xs.toList.drop off).take (P.cellsOf e) := by
        rw [Array.toList_extract]
        simp [List.extract]
      have plain : P.plainKey e = true → ∀ v, (xs.toList.drop off).take (P.cellsOf e) = [v] → v.cells.toList = [v] → ∃ a, (part e xs off).run P w = .ok a w ∧ fitC P e a ∧ a.cells.toList = (xs.toList.drop off).take (P.cellsOf e) := by
        intro hp v ev hv
        refine ⟨v, run_part_plain w hp (getElem?_of_chunk ev), ?_, by rw [ev, hv]⟩
        unfold fitC
        unfold Program.plainKey at hp
        rw [hu] at hp ⊢
        cases kd <;> simp at hp <;> exact hv
      cases kd
      case bool =>
        obtain ⟨b, e1, _⟩ := cmpL_bool hu ha
        exact plain (by simp [Program.plainKey, hu]) _ e1 rfl
      case int q =>
        obtain ⟨b, e1, _⟩ := cmpL_int hu ha
        exact plain (by simp [Program.plainKey, hu]) _ e1 rfl
      case string =>
        obtain ⟨b, e1, _⟩ := cmpL_string hu ha
        exact plain (by simp [Program.plainKey, hu]) _ e1 rfl
      case array n e' =>
        obtain ⟨i, hi⟩ := info_of_underlying hu
        refine ⟨.agg (xs.extract off (off + P.cellsOf e)), ?_, ?_, hl⟩
        · simp [part, isAgg, run_underlying hu, run_sizeOf w hi]
        · unfold fitC; rw [hu]; exact ⟨_, rfl⟩
      case struct fs =>
        obtain ⟨i, hi⟩ := info_of_underlying hu
        refine ⟨.agg (xs.extract off (off + P.cellsOf e)), ?_, ?_, hl⟩
        · simp [part, isAgg, run_underlying hu, run_sizeOf w hi]
        · unfold fitC; rw [hu]; exact ⟨_, rfl⟩
      all_goals (simp [cmpL, hu] at ha)

theorem app_iff {α : Type} {a b c d : List α} (h : a.length = b.length) : a ++ c = b ++ d ↔ a = b ∧ c = d := by
  constructor
  · intro e; exact List.append_inj e h
  · rintro ⟨rfl, rfl⟩; rfl

theorem step_c {dd d off : Nat} {e : TypeId} (IH : EqV P dd d e) (w : World) {xs ys : Array Value} {la lb : List Value}
    (ha : cmpL P d e ((xs.toList.drop off).take (P.cellsOf e)) = some la) (hb : cmpL P d e ((ys.toList.drop off).take (P.cellsOf e)) = some lb) :
    la.length = lb.length ∧ ∃ a b r, (part e xs off).run P w = .ok a w ∧ (part e ys off).run P w = .ok b w ∧ (Op.equalIn dd e a b).run P w = .ok r w ∧ (r = true ↔ la = lb) := by
  obtain ⟨a, p1, f1, c1⟩ := part_c (w := w) ha
  obtain ⟨b, p2, f2, c2⟩ := part_c (w := w) hb
  obtain ⟨hlen, r, hr, hiff⟩ := IH w a b la lb f1 f2 (by rw [c1]; exact ha) (by rw [c2]; exact hb)
  exact ⟨hlen, a, b, r, p1, p2, hr, hiff⟩

theorem fields_c (w : World) (dd d : Nat) (xs ys : Array Value) : ∀ (fs : List Field) (as bs : List (List Value)), (∀ f ∈ fs, f.name ≠ "_") → (∀ t, EqV P dd d t) →
    fs.mapM (fun f => cmpL P d f.type ((xs.toList.drop f.offset).take (P.cellsOf f.type))) = some as → fs.mapM (fun f => cmpL P d f.type ((ys.toList.drop f.offset).take (P.cellsOf f.type))) = some bs →
    as.flatten.length = bs.flatten.length ∧ ∃ r : Bool, (Op.eqFields dd xs ys fs).run P w = .ok r w ∧ (r = true ↔ as.flatten = bs.flatten)
  | [], as, bs, _, _, ha, hb => by
    simp at ha hb
    subst ha; subst hb
    exact ⟨rfl, true, by simp [Op.eqFields], by simp⟩
  | f :: fs, as, bs, hn, IH, ha, hb => by
    rw [List.mapM_cons] at ha hb
    simp only [bind, Option.bind_eq_some_iff, pure, Option.some.injEq] at ha hb
    obtain ⟨la, ha1, as', ha2, rfl⟩ := ha
    obtain ⟨lb, hb1, bs', hb2, rfl⟩ := hb
    obtain ⟨hlen, a, b, r, p1, p2, p3, hiff⟩ := step_c (IH f.type) w ha1 hb1
    obtain ⟨hlen', r', hr', hiff'⟩ := fields_c w dd d xs ys fs as' bs' (fun g hg => hn g (by simp [hg])) IH ha2 hb2
    refine ⟨by simp only [List.flatten_cons, List.length_append]; omega, ?_⟩
    simp only [Op.eqFields, hn f (by simp), ne_eq, not_false_eq_true, if_true, Sem.run_bind, p1, p2, p3, Result.andThen_ok, List.flatten_cons, app_iff hlen]
    cases r
    · exact ⟨false, by simp, by simp; intro e; exact absurd (hiff.2 e) (by simp)⟩
    · refine ⟨r', by simpa using hr', ?_⟩
      rw [hiff']
      simp [hiff.1 rfl]

theorem items_c (w : World) (dd d : Nat) {e : TypeId} (IH : EqV P dd d e) (xs ys : Array Value) : ∀ (is : List Nat) (as bs : List (List Value)),
    is.mapM (fun i => cmpL P d e ((xs.toList.drop (i * P.cellsOf e)).take (P.cellsOf e))) = some as → is.mapM (fun i => cmpL P d e ((ys.toList.drop (i * P.cellsOf e)).take (P.cellsOf e))) = some bs →
    as.flatten.length = bs.flatten.length ∧ ∃ r : Bool, (Op.eqItems dd e (P.cellsOf e) xs ys is).run P w = .ok r w ∧ (r = true ↔ as.flatten = bs.flatten)
  | [], as, bs, ha, hb => by
    simp at ha hb
    subst ha; subst hb
    exact ⟨rfl, true, by simp [Op.eqItems], by simp⟩
  | i :: is, as, bs, ha, hb => by
    rw [List.mapM_cons] at ha hb
    simp only [bind, Option.bind_eq_some_iff, pure, Option.some.injEq] at ha hb
    obtain ⟨la, ha1, as', ha2, rfl⟩ := ha
    obtain ⟨lb, hb1, bs', hb2, rfl⟩ := hb
    obtain ⟨hlen, a, b, r, p1, p2, p3, hiff⟩ := step_c IH w ha1 hb1
    obtain ⟨hlen', r', hr', hiff'⟩ := items_c w dd d IH xs ys is as' bs' ha2 hb2
    refine ⟨by simp only [List.flatten_cons, List.length_append]; omega, ?_⟩
    simp only [Op.eqItems, Sem.run_bind, p1, p2, p3, Result.andThen_ok, List.flatten_cons, app_iff hlen]
    cases r
    · exact ⟨false, by simp, by simp; intro e; exact absurd (hiff.2 e) (by simp)⟩
    · refine ⟨r', by simpa using hr', ?_⟩
      rw [hiff']
      simp [hiff.1 rfl]

theorem equalIn_c : ∀ (d dd : Nat) (t : TypeId), d ≤ dd → EqV P dd d t
  | 0, _, t, _ => by intro w x y lx ly _ _ hx; simp [cmpL] at hx
  | d + 1, 0, t, h => by omega
  | d + 1, dd + 1, t, hdd => by
    intro w x y lx ly fx fy hx hy
    have IH : ∀ t, EqV P dd d t := fun t => equalIn_c d dd t (by omega)
    cases hu : P.underlying t with
    | none => simp [cmpL, hu] at hx
    | some kd =>
      cases kd
      case bool =>
        simp only [fitC, hu] at fx fy
        rw [fx] at hx; rw [fy] at hy
        obtain ⟨a, e1, rfl⟩ := cmpL_bool hu hx
        obtain ⟨b, e2, rfl⟩ := cmpL_bool hu hy
        cases e1; cases e2
        exact ⟨rfl, a == b, run_equalIn_bool' w dd t a b hu, by simp⟩
      case int q =>
        simp only [fitC, hu] at fx fy
        rw [fx] at hx; rw [fy] at hy
        obtain ⟨a, e1, rfl⟩ := cmpL_int hu hx
        obtain ⟨b, e2, rfl⟩ := cmpL_int hu hy
        cases e1; cases e2
        exact ⟨rfl, a == b, run_equalIn_int w dd t q q a b hu, by simp⟩
      case string =>
        simp only [fitC, hu] at fx fy
        rw [fx] at hx; rw [fy] at hy
        obtain ⟨a, e1, rfl⟩ := cmpL_string hu hx
        obtain ⟨b, e2, rfl⟩ := cmpL_string hu hy
        cases e1; cases e2
        refine ⟨rfl, a.toList == b.toList, run_equalIn_string w dd t a b hu, ?_⟩
        simp only [beq_iff_eq, ByteArray.toList_eq, List.cons.injEq, Value.string.injEq, and_true]
        constructor
        · intro h
          obtain ⟨⟨x⟩⟩ := a
          obtain ⟨⟨y⟩⟩ := b
          simp only at h
          rw [h]
        · rintro rfl; rfl
      case array n e =>
        simp only [fitC, hu] at fx fy
        obtain ⟨xs, rfl⟩ := fx
        obtain ⟨ys, rfl⟩ := fy
        simp only [cmpL, hu, Value.cells] at hx hy
        split at hx
        · rename_i hc
          split at hy
          · simp only [Option.map_eq_some_iff] at hx hy
            obtain ⟨as, ha, rfl⟩ := hx
            obtain ⟨bs, hb, rfl⟩ := hy
            obtain ⟨hlen, r, hr, hiff⟩ := items_c w dd d (IH e) xs ys (List.range n) as bs ha hb
            obtain ⟨i, hi⟩ := Option.isSome_iff_exists.1 hc.2
            exact ⟨hlen, r, by rw [run_equalIn_array w dd xs ys hu hi]; exact hr, hiff⟩
          · cases hy
        · cases hx
      case struct fs =>
        simp only [fitC, hu] at fx fy
        obtain ⟨xs, rfl⟩ := fx
        obtain ⟨ys, rfl⟩ := fy
        simp only [cmpL, hu, Value.cells] at hx hy
        split at hx
        · rename_i hc
          split at hy
          · simp only [Option.map_eq_some_iff] at hx hy
            obtain ⟨as, ha, rfl⟩ := hx
            obtain ⟨bs, hb, rfl⟩ := hy
            have hfs : P.fieldsOf t = fs := by simp [Program.fieldsOf, hu]
            obtain ⟨hlen, r, hr, hiff⟩ := fields_c w dd d xs ys fs.toList as bs (fun f hf => by
              have := Array.all_eq_true_iff_forall_mem.1 hc.2.1 f (Array.mem_toList_iff.1 hf)
              simpa using this) IH ha hb
            exact ⟨hlen, r, by rw [run_equalIn_struct w dd t xs ys (by rw [hfs]; exact hu) hc.2.2, hfs]; exact hr, hiff⟩
          · cases hy
        · cases hx
      all_goals (simp [cmpL, hu] at hx)
end

def valsAs : List AV → Option (List Value)
  | [] => some []
  | .f (.v x) :: l => (valsAs l).map (x :: ·)
  | _ :: _ => none
def valsFs : List FV → Option (List Value)
  | [] => some []
  | .v x :: l => (valsFs l).map (x :: ·)
  | _ :: _ => none
/-- the cells of a struct or an array, if they are plain -/
def valsA : AV → Option (List Value)
  | .agg xs => valsAs xs
  | .f (.agg xs) => valsFs xs
  | _ => none
theorem valsAs_sound {S : Nat → Prop} {ι : Nat → Loc} {n : Nat} {w : World} : ∀ {l : List AV} {vs ys : List Value}, valsAs l = some vs → VRs S ι n w l ys → ys = vs
  | [], vs, ys, h, hv => by simp only [valsAs, Option.some.injEq] at h; simp only [VRs] at hv; rw [hv, h]
  | .f (.v x) :: l, vs, ys, h, hv => by
    simp only [valsAs, Option.map_eq_some_iff] at h
    obtain ⟨vs', h1, rfl⟩ := h
    simp only [VRs, VR, FR] at hv
    obtain ⟨y, ys', rfl, ⟨rfl, _⟩, h2⟩ := hv
    rw [valsAs_sound h1 h2]
  | .f (.agg _) :: l, vs, ys, h, hv => by simp [valsAs] at h
  | .f (.tup _) :: l, vs, ys, h, hv => by simp [valsAs] at h
  | .f (.sl _ _) :: l, vs, ys, h, hv => by simp [valsAs] at h
  | .f (.p _ _) :: l, vs, ys, h, hv => by simp [valsAs] at h
  | .f (.m _) :: l, vs, ys, h, hv => by simp [valsAs] at h
  | .f (.clo _ _ _) :: l, vs, ys, h, hv => by simp [valsAs] at h
  | .agg _ :: l, vs, ys, h, hv => by simp [valsAs] at h
  | .tup _ :: l, vs, ys, h, hv => by simp [valsAs] at h
  | .ptr _ _ :: l, vs, ys, h, hv => by simp [valsAs] at h
  | .rp _ _ _ _ :: l, vs, ys, h, hv => by simp [valsAs] at h
  | .sl _ _ _ _ :: l, vs, ys, h, hv => by simp [valsAs] at h
  | .mp _ :: l, vs, ys, h, hv => by simp [valsAs] at h
  | .it _ :: l, vs, ys, h, hv => by simp [valsAs] at h
  | .clo _ _ _ :: l, vs, ys, h, hv => by simp [valsAs] at h
  | .g _ :: l, vs, ys, h, hv => by simp [valsAs] at h
theorem valsFs_sound {S : Nat → Prop} {w : World} : ∀ {l : List FV} {vs ys : List Value}, valsFs l = some vs → FRs S w l ys → ys = vs
  | [], vs, ys, h, hv => by simp only [valsFs, Option.some.injEq] at h; simp only [FRs] at hv; rw [hv, h]
  | .v x :: l, vs, ys, h, hv => by
    simp only [valsFs, Option.map_eq_some_iff] at h
    obtain ⟨vs', h1, rfl⟩ := h
    simp only [FRs, FR] at hv
    obtain ⟨y, ys', rfl, ⟨rfl, _⟩, h2⟩ := hv
    rw [valsFs_sound h1 h2]
  | .agg _ :: l, vs, ys, h, hv => by simp [valsFs] at h
  | .tup _ :: l, vs, ys, h, hv => by simp [valsFs] at h
  | .sl _ _ :: l, vs, ys, h, hv => by simp [valsFs] at h
  | .p _ _ :: l, vs, ys, h, hv => by simp [valsFs] at h
  | .m _ :: l, vs, ys, h, hv => by simp [valsFs] at h
  | .clo _ _ _ :: l, vs, ys, h, hv => by simp [valsFs] at h
theorem valsA_sound {S : Nat → Prop} {ι : Nat → Loc} {n : Nat} {w : World} {x : AV} {vs : List Value} {y : Value} (h : valsA x = some vs) (hv : VR S ι n w x y) : y = .agg vs.toArray := by
  unfold valsA at h
  split at h
  · simp only [VR] at hv
    obtain ⟨ys, rfl, h1, _⟩ := hv
    rw [← valsAs_sound h h1]
  · simp only [VR, FR] at hv
    obtain ⟨ys, rfl, h1, _⟩ := hv
    rw [← valsFs_sound h h1]
  · cases h

def isAggT (P : Program) (t : TypeId) : Bool := match P.underlying t with
  | some (.array _ _) => true
  | some (.struct _) => true
  | _ => false
theorem run_cmp {P : Program} {w : World} {o : Oper} {a : Act} {neq : Bool} {T U : TypeId} {x y : Operand} {xs ys lx ly : List Value} {d : Nat} {b : Bool} (ho : o.op = .binOp (bif neq then .neq else .eql) T x y U)
    (e1 : a.eval x = .agg xs.toArray) (e2 : a.eval y = .agg ys.toArray) (hm : P.eqGuardType P.depth T = false) (hagg : isAggT P T = true) (hd : d ≤ 10000) (hx : cmpL P d T xs = some lx) (hy : cmpL P d T ys = some ly) (hb : b = true ↔ lx = ly) :
    (execOp a.eval o).run P w = .ok (.value (.bool (bif neq then !b else b))) w := by
  have fit : ∀ zs : List Value, fitC P T (.agg zs.toArray) := by
    intro zs
    unfold fitC isAggT at *
    split at hagg
    · exact ⟨_, rfl⟩
    · exact ⟨_, rfl⟩
    · cases hagg
  obtain ⟨_, r, hr, hiff⟩ := equalIn_c d 10000 T hd w (.agg xs.toArray) (.agg ys.toArray) lx ly (fit _) (fit _) (by simpa [Value.cells] using hx) (by simpa [Value.cells] using hy)
  have hrb : r = b := by
    cases r <;> cases b <;> simp_all
  subst hrb
  cases neq
  · simp only [cond_false] at ho ⊢
    simp [execOp, ho, e1, e2, run_eqGuard_agg w .eql T x y xs.toArray ys.toArray hm, run_eql_struct, hr]
  · simp only [cond_true] at ho ⊢
    simp [execOp, ho, e1, e2, run_eqGuard_agg w .neq T x y xs.toArray ys.toArray hm, run_neq_struct, hr]

section
variable {C : Cx} {n : Nat} {all os : List Oper} {o : Oper} {k : List Item} {σ : St}
/-- two structs held against one another -/
theorem AW.cmp (neq b : Bool) (d : Nat) {T U : TypeId} {x y : Operand} {X Y : AV} {xs ys lx ly : List Value} (hgd : o.guard = none) (ho : o.op = .binOp (bif neq then .neq else .eql) T x y U) (hx : ev σ x = some (true, X)) (hy : ev σ y = some (true, Y))
    (vx : valsA X = some xs) (vy : valsA Y = some ys) (hm : C.P.eqGuardType C.P.depth T = false) (hagg : isAggT C.P T = true) (hd : d ≤ 10000) (cx : cmpL C.P d T xs = some lx) (cy : cmpL C.P d T ys = some ly) (hb : b = true ↔ lx = ly)
    (hk : AWn C n all os k (σ.put o.dst (.s (.bool (bif neq then !b else b))))) : AW C all (o :: os) k σ := by
  refine AW.op _ hgd (fun ι S a w hs => ?_) hk
  have e1 := valsA_sound vx (ev_sound hs hx rfl)
  have e2 := valsA_sound vy (ev_sound hs hy rfl)
  exact .same hs (run_cmp ho e1 e2 hm hagg hd cx cy hb) (mk_v rfl)
theorem step_cmp (neq b : Bool) (d : Nat) {L : List Oper} {h : Heap} {m : Nat} {t : List (Nat × AV)} {c : Bool} {T U : TypeId} {x y : Operand} {X Y : AV} {xs ys lx ly : List Value} (hg : guardOf L ⟨pickT t (o.looksAt L.toArray), h, m⟩ o.guard = some c) (ho : o.op = .binOp (bif neq then .neq else .eql) T x y U)
    (hx : ev ⟨pickT t (o.looksAt L.toArray), h, m⟩ x = some (true, X)) (hy : ev ⟨pickT t (o.looksAt L.toArray), h, m⟩ y = some (true, Y))
    (vx : valsA X = some xs) (vy : valsA Y = some ys) (hm : C.P.eqGuardType C.P.depth T = false) (hagg : isAggT C.P T = true) (hd : d ≤ 10000) (cx : cmpL C.P d T xs = some lx) (cy : cmpL C.P d T ys = some ly) (hb : b = true ↔ lx = ly) :
    StepOK C L k h m o t (mkg c (.s (.bool (bif neq then !b else b)))) := by
  intro u ι S a w hs hl hdst next hnext
  have hp := sim_pick hs hl
  have hw := guard_sound (C := C) hp hg
  rw [hw]
  constructor
  · rintro rfl
    have e1 := valsA_sound vx (ev_sound hp hx rfl)
    have e2 := valsA_sound vy (ev_sound hp hy rfl)
    have hrun := run_cmp (w := w) ho e1 e2 hm hagg hd cx cy hb
    unfold Oper.wp
    rw [hrun, Oper.upon_value]
    refine hnext ι S _ w ?_
    rw [← put_putT]
    exact hs.put hdst (mk_v rfl)
  · rintro rfl
    refine hnext ι S _ w ?_
    rw [← put_putT]
    exact put_false hs hdst _
end
end Go.Fw
