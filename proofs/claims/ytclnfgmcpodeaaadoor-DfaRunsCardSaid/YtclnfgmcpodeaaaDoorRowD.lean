/-
  Walks and plain laws towards the statements of this seat (RowD). Conditions: those that each theorem names.
-/
import Derived.Test.YtclnfgmcpodeaaaDoorRowC
import Derived.Test.YtclnfgmcpodeaaaDoorFwB
import Derived.Test.YtclnfgmcpodeaaaDoorTk
import Derived.Test.YtclnfgmcpodeaaaDoorCards
import Derived.Test.YtclnfgmcpodeaaaDoorTie
import Derived.WalkKit
import Derived.ProofKit
import Derived.OpenShut
import Derived.ChangeMaps5
import Derived.Deep.DeepHandedRow
set_option linter.unusedVariables false
namespace Go.Proofs.YtclnfgmcpodeaaaDoor
open Go Go.Fw Go.ChangeMaps Go.ChangeShapes Go.WideShapes Go.ChangeAt Go.RowKit

theorem own : ownKnob Tryd.prog.godebug = none := by kernel_rfl

/-- A quiet end keeps what was there. -/
theorem keptBut_of_quiet {W W' : World} (h : Quiet W W') (may : MemPlace → Prop) : W.keptBut W' may := by
  refine ⟨h.os, h.output, fun i hi => ?_⟩
  rw [h.heap i hi]
  cases W.heap[i]? with
  | none => trivial
  | some o => cases o <;> first | exact ⟨rfl, rfl, rfl, fun _ _ => rfl⟩ | exact .inr ⟨rfl, rfl⟩ | rfl
theorem frozen_of_quiet {W W' : World} (h : Quiet W W') (a : Addr) (ha : a.block < W.heap.size) : W'.frozen? a = W.frozen? a := by
  unfold World.frozen?
  rw [h.heap _ ha]

/-- What a quiet call that hands back one value leaves is what the row says. -/
theorem post_quiet {H : Type} {enc : TypeId × Value → H} {P : Program} {f : Func} {s : ChangeSpec} {apart fresh handsOn again : Bool} {W W' : World} {args : Array Value} {v : Value} {ds gs : List (DataW H)} {before pa pv : List MemPlace}
    (hW : DataW.Whole enc P f.params.toList s.vars apart W args.toList ds gs before)
    (hres : ∀ (b : Nat) (sp : Nat → Bool) (hd : Bool), DataW.TrodAll enc P W' b sp hd f.resultTypes.toList (v.resultList f.resultTypes.size) (s.fn H (ds ++ gs)).results [])
    (hargs : ∀ sp : Nat → Bool, (∀ p ∈ before, sp p.block = true) → DataW.TrodAll enc P W' 0 sp true f.params.toList args.toList (s.fn H (ds ++ gs)).args pa)
    (hvars : ∀ sp : Nat → Bool, (∀ p ∈ before, sp p.block = true) → DataW.TrodVars enc P W' sp s.vars (s.fn H (ds ++ gs)).vars pv)
    (hps : before = pa ++ pv) (hq : Quiet W W')
    (hok : ∀ (j : Nat) (t : TypeId) (r : Value), f.resultTypes[j]? = some t → (v.resultList f.resultTypes.size)[j]? = some r → Value.okWide P W' .any 0 t r) :
    s.post enc P f apart fresh handsOn again W args v W' := by
  have hold : ∀ p ∈ before, (fun b => decide (b < W.heap.size)) p.block = true := fun p hp => by simpa using hW.lt p hp
  have hlt := hW.lt
  refine ⟨ds, gs, before, [], pa, pv, hW, hres _ _ _, hargs _ hold, hvars _ hold, keptBut_of_quiet hq _, fun _ => ?_⟩
  obtain ⟨_, _, _, _, _, hz, hn⟩ := hW
  refine ⟨hok, _, _, ([] ++ pa) ++ pv, ⟨[] ++ pa, pv, trodAll_append (hargs _ (fun _ _ => rfl)) (hres _ _ _), hvars _ (fun _ _ => rfl), rfl, ?_, ?_⟩, ?_⟩
  · intro b off hp
    have hp' : MemPlace.cell b off ∈ before := by rw [hps]; simpa using hp
    rw [frozen_of_quiet hq _ (hlt _ hp')]
    exact hz b off hp'
  · intro ha
    have := hn ha
    rw [hps] at this
    simpa using this
  · intro p hp _
    rw [hps]
    simpa using hp
/-- A promise over plain values, as the row's walk. -/
theorem calls_of_pc {P : Program} {f : FuncId} {xs : List Value} (h : PC P f (xs.map .v) (· = .v (.bool true))) (hx : ∀ x ∈ xs, x.oneCell' = true) (W : World) :
    Calls P f xs.toArray W fun e W' => e = .returned (.bool true) ∧ Quiet W W' := by
  have key : ∀ xs : List Value, (∀ x ∈ xs, x.oneCell' = true) → FRs (fun _ => False) W (xs.map .v) xs := by
    intro xs
    induction xs with
    | nil => intro _; simp only [List.map_nil, FRs]
    | cons x xs ih =>
      intro hx
      simp only [List.map_cons, FRs, FR]
      exact ⟨x, xs, rfl, ⟨rfl, hx x (by simp)⟩, ih fun y hy => hx y (by simp [hy])⟩
  refine (h (fun _ => False) W xs.toArray (fun _ h => h.elim) (key xs hx)).mono ?_
  rintro e W' ⟨v, r, S', rfl, rfl, _, _, hq, hv⟩
  simp only [FR] at hv
  rw [hv.1]
  exact ⟨rfl, hq⟩

/-- A promise over values that came in, as the row's walk. -/
theorem calls_of_pcf {P : Program} {f : FuncId} {fs : List FV} {vals : Array Value} (h : PC P f fs (· = .v (.bool true))) (W : World) (hv : FRs (Old W) W fs vals.toList) :
    Calls P f vals W fun e W' => e = .returned (.bool true) ∧ Quiet W W' := by
  refine (h (Old W) W vals (fun _ h => h) hv).mono ?_
  rintro e W' ⟨v, r, S', rfl, rfl, _, _, hq, hv⟩
  simp only [FR] at hv
  rw [hv.1]
  exact ⟨rfl, hq⟩
theorem cell_of_quiet {W W' : World} (h : Quiet W W') (a : Addr) (ha : a.block < W.heap.size) : W'.cell? a = W.cell? a := by
  unfold World.cell?
  rw [h.heap _ ha]
theorem same_of_quiet {W W' : World} (h : Quiet W W') (p : MemPlace) (hp : p.block < W.heap.size) : W.sameAt W' p := by
  cases p with
  | cell b off => exact cell_of_quiet h _ hp
  | map b => exact h.heap _ hp
noncomputable def laidWorld (os : Os) : World :=
  let w0 := World.holding Tryd.prog os ⟨#[], #[], []⟩
  { w0 with heap := ((w0.heap.modify 0 fun
      | .cells _ t fz => .cells (#[1, 10, 100, 1000, 10000, 100000, 1000000, 10000000, 100000000, 1000000000, 10000000000, 100000000000, 1000000000000, 10000000000000, 100000000000000, 1000000000000000, 10000000000000000, 100000000000000000, 1000000000000000000, 10000000000000000000].map fun n => .int .u64 n) t fz | o => o).modify 1 fun
      | .cells _ t fz => .cells (#[0, 1, 28, 2, 29, 14, 24, 3, 30, 22, 20, 15, 25, 17, 4, 8, 31, 27, 13, 23, 21, 19, 16, 7, 26, 12, 18, 6, 11, 5, 10, 9].map fun n => .int .u8 n) t fz | o => o).modify 2 fun
      | .cells _ t fz => .cells (#[0, 1, 56, 2, 57, 49, 28, 3, 61, 58, 42, 50, 38, 29, 17, 4, 62, 47, 59, 36, 45, 43, 51, 22, 53, 39, 33, 30, 24, 18, 12, 5, 63, 55, 48, 27, 60, 41, 37, 16, 46, 35, 44, 21, 52, 32, 23, 11, 54, 26, 40, 15, 34, 20, 31, 10, 25, 14, 19, 9, 13, 8, 7, 6].map fun n => .int .u8 n) t fz | o => o }
set_option maxRecDepth 100000 in
theorem laid_met (os : Os) (args : Array Value) : laidMet Tryd.prog Rows.dfaPartsRow.laid ((laidWorld os).forCall (fun _ _ => 0) ⟨#[], args, []⟩).memory :=
  laidMet_of_run' 8 (by kernel_rfl) (by kernel_rfl)
end Go.Proofs.YtclnfgmcpodeaaaDoor
