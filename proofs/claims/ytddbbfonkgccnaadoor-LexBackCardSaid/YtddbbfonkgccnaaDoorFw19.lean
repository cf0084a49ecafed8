/-
  Fw19: promises out of the shelf's contracts.
-/
import Derived.Test.YtddbbfonkgccnaaDoorFw18
import Derived.Lib.ConvBytes
set_option linter.unusedVariables false
namespace Go.Fw
open Go

theorem PC.of_calls {P : Program} {f : FuncId} {xs : List Value} {v : Value} {r : FV} (hr : ∀ S w, FR S w r v) (h : ∀ w, Calls P f xs.toArray w fun e w' => e = .returned v ∧ Quiet w w') : PC P f (xs.map .v) (· = r) := by
  intro S w vals hS hv
  have hvals : vals = xs.toArray := by
    have : ∀ (xs : List Value) (ys : List Value), FRs S w (xs.map .v) ys → ys = xs := by
      intro xs
      induction xs with
      | nil => intro ys h; simpa only [List.map_nil, FRs] using h
      | cons x xs ih =>
        intro ys h
        simp only [List.map_cons, FRs, FR] at h
        obtain ⟨y, ys', rfl, ⟨rfl, _⟩, h2⟩ := h
        rw [ih _ h2]
    have h1 := this xs vals.toList hv
    rw [← h1]
  rw [hvals]
  refine (h w).mono ?_
  rintro e w' ⟨rfl, hq⟩
  exact ⟨v, r, S, rfl, rfl, fun _ h => h, fun _ h => .inl h, hq, hr S w'⟩

theorem Quiet.freeze (w w1 : World) (hq : Quiet w w1) {b o n : Nat} (hb : w.heap.size ≤ b) : Quiet w (w1.freeze ⟨b, o, none⟩ n) := by
  unfold World.freeze
  split
  · exact hq
  · refine ⟨fun b' hb' => ?_, by simpa using hq.size, hq.os, hq.tape, hq.output⟩
    simp only [Array.getElem?_modify]
    rw [if_neg (by omega)]
    exact hq.heap b' hb'
theorem Quiet.bytes (w : World) (e : TypeId) (s : ByteArray) : Quiet w (Lib.bytesWorld w e s) := by
  unfold Lib.bytesWorld
  exact Quiet.freeze w _ ((Quiet.drew w).trans (Quiet.alloc w.drew _)) (Nat.le_refl _)

/-- frozen rows handed over for the call alone: the answer is told without them -/
theorem PC.const {P : Program} {f : FuncId} {args : List FV} {Φ : FV → Prop} (h : PC P f args Φ) : PC P f args Φ := h
theorem getD_u8 (b : List UInt8) (j : Nat) : (b.map u8).getD j (.v (.int .u8 0)) = u8 (b.getD j 0) := by
  simp only [List.getD, List.getElem?_map]
  cases b[j]? <;> simp [u8]
theorem take_succ_getD (b : List UInt8) (j : Nat) (h : j < b.length) : b.take (j + 1) = b.take j ++ [b.getD j 0] := by
  rw [List.take_add_one, List.getD, List.getElem?_eq_getElem h]; rfl
end Go.Fw
