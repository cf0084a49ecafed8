/-
  Walks and plain laws towards the statements of this seat (RowDfa). Conditions: those that each theorem names.
-/
import Derived.Test.YtclnfgmcpodeaaaDoorRowD
import Derived.Test.YtclnfgmcpodeaaaDoorDfa4
set_option linter.unusedVariables false
namespace Go.Proofs.YtclnfgmcpodeaaaDoor
open Go Go.Fw Go.ChangeMaps Go.ChangeShapes Go.WideShapes Go.ChangeAt Go.RowKit
theorem FR_sl_cells {S : Nat → Prop} {w : World} {sz : Nat} {xs : List FV} {y a : Value} (h : FR S w (.sl sz xs) y) (hy : y.cells.toList = [a]) : y = a ∧ a.oneCell' = true := by
  simp only [FR] at h
  rcases h with ⟨_, a', c, rfl⟩ | ⟨b, o, c, cs, T, fz, rfl, _⟩ <;> simp [Value.cells] at hy <;> subst hy <;> exact ⟨rfl, rfl⟩
set_option maxRecDepth 100000
/-- an automaton of one way that came in -/
theorem open_dfa {H : Type} {enc : TypeId × Value → H} {W : World} {base base' : Nat} {sp : Nat → Bool} {held : Bool} {r : Reach} {v : Value} {d : DataW H} {ps : List MemPlace}
    (hval : Value.okWide Tryd.prog W r base' 26 v) (hd : DataW.Trod enc Tryd.prog W base sp held 26 v d ps) : ∃ D : Dfa, D.Wf ∧ FR (Old W) W (dfaV D) v := by
  obtain ⟨fs, ht, hfs⟩ : ∃ fs, (Tryd.prog).underlying 26 = some (.struct fs) ∧ fs.toList.map (fun f => (f.type, f.offset)) = [(22, 0), (23, 1), (24, 2)] := ⟨_, Tryd.underlying26, by kernel_rfl⟩
  have hct : (Tryd.prog).cellsOf 26 = 3 := by kernel_rfl
  have c1 : (Tryd.prog).cellsOf 22 = 1 := by kernel_rfl
  have c2 : (Tryd.prog).cellsOf 23 = 1 := by kernel_rfl
  have c3 : (Tryd.prog).cellsOf 24 = 1 := by kernel_rfl
  have e1 : (Tryd.prog).cellsOf 3 = 1 := by kernel_rfl
  have e2 : (Tryd.prog).cellsOf 4 = 1 := by kernel_rfl
  simp only [Value.okWide, ht] at hval
  obtain ⟨cs, rfl, h2, _⟩ := hval
  rw [hct] at h2
  obtain ⟨xs, rfl⟩ : ∃ xs : List Value, cs = xs.toArray := ⟨cs.toList, by simp⟩
  match xs, h2 with
  | [x0, x1, x2], _ =>
    obtain ⟨fuel, hf⟩ := hd
    have hcells : (Value.agg [x0, x1, x2].toArray).cells.toList = [x0, x1, x2] := by simp [Value.cells]
    rw [hcells] at hf
    obtain ⟨n, ys, _, hm⟩ := trod_struct ht hf
    obtain ⟨_, hm⟩ := mapM_some hm
    have fld : ∀ (i : Nat) (q : TypeId × Nat), [(22, 0), (23, 1), (24, 2)][i]? = some q → ∃ b, DataW.trod enc Tryd.prog W base sp held n q.1 (([x0, x1, x2].drop q.2).take ((Tryd.prog).cellsOf q.1)) = some b := by
      intro i q hq
      rw [← hfs, List.getElem?_map, Option.map_eq_some_iff] at hq
      obtain ⟨a, ha, rfl⟩ := hq
      obtain ⟨b, _, hb⟩ := hm i a ha
      exact ⟨b, hb⟩
    obtain ⟨b0, g0⟩ := fld 0 _ rfl
    obtain ⟨b1, g1⟩ := fld 1 _ rfl
    obtain ⟨b2, g2⟩ := fld 2 _ rfl
    simp only [c1, c2, c3, List.drop_zero, List.drop_succ_cons, List.take_succ_cons, List.take_zero] at g0 g1 g2
    have oi : Opens enc Tryd.prog W base sp held 22 (fun xs : List Int => (∀ a ∈ xs, (Lit.int .i64 a).wf = true) ∧ xs.length ≤ maxLen) (fun xs => .sl ((Tryd.prog).cellsOf 3) (xs.map intF)) := opens_slice Tryd.underlying22 (by rw [e1]; decide) (opens_int Tryd.underlying3)
    have or_ : Opens enc Tryd.prog W base sp held 23 (fun xs : List (List Int) => (∀ a ∈ xs, (∀ b ∈ a, (Lit.int .i64 b).wf = true) ∧ a.length ≤ maxLen) ∧ xs.length ≤ maxLen) (fun xs => .sl ((Tryd.prog).cellsOf 22) (xs.map fun xs => .sl ((Tryd.prog).cellsOf 3) (xs.map intF))) := opens_slice Tryd.underlying23 (by rw [c1]; decide) oi
    have ob : Opens enc Tryd.prog W base sp held 24 (fun xs : List Bool => (∀ a ∈ xs, True) ∧ xs.length ≤ maxLen) (fun xs => .sl ((Tryd.prog).cellsOf 4) (xs.map boolF)) := opens_slice Tryd.underlying24 (by rw [e2]; decide) (opens_bool Tryd.underlying4)
    obtain ⟨cls, y0, ⟨hc1, hc2⟩, hf0, hy0, _⟩ := oi n [x0] b0.1 b0.2 (by rw [c1]; rfl) g0
    obtain ⟨nx, y1, ⟨hn1, hn2⟩, hf1, hy1, _⟩ := or_ n [x1] b1.1 b1.2 (by rw [c2]; rfl) g1
    obtain ⟨fn, y2, ⟨_, hb2⟩, hf2, hy2, _⟩ := ob n [x2] b2.1 b2.2 (by rw [c3]; rfl) g2
    obtain ⟨rfl, o0⟩ := FR_sl_cells hf0 hy0
    obtain ⟨rfl, o1⟩ := FR_sl_cells hf1 hy1
    obtain ⟨rfl, o2⟩ := FR_sl_cells hf2 hy2
    rw [e1] at hf0
    rw [c1, e1] at hf1
    rw [e2] at hf2
    refine ⟨⟨cls, nx, fn⟩, ⟨hc1, hc2, hn2, hb2, hn1⟩, ?_⟩
    unfold dfaV
    rw [FR]
    refine ⟨_, rfl, ?_, ?_⟩
    · simp only [FRs]
      exact ⟨_, _, rfl, hf0, _, _, rfl, hf1, _, _, rfl, hf2, rfl⟩
    · intro z hz
      simp only [List.mem_cons, List.not_mem_nil, or_false] at hz
      rcases hz with rfl | rfl | rfl <;> assumption
end Go.Proofs.YtclnfgmcpodeaaaDoor
