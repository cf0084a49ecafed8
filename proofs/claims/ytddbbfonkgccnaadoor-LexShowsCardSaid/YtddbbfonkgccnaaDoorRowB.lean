/-
  Walks and plain laws towards the statements of this seat (RowB). Conditions: those that each theorem names.
-/
import Derived.Test.YtddbbfonkgccnaaDoorRowA
import Derived.Laws.IdiomArrays
import Derived.Test.YtddbbfonkgccnaaDoorLexSet
import Derived.Test.YtddbbfonkgccnaaDoorFwB
set_option linter.unusedVariables false
namespace Go.Proofs.YtddbbfonkgccnaaDoor
open Go Go.Fw Go.ChangeMaps Go.ChangeShapes Go.WideShapes Go.ChangeAt Go.RowKit
section
variable {H : Type} {enc : TypeId × Value → H} {P : Program} {W : World} {base : Nat} {spare : Nat → Bool} {held : Bool}
/-- an array of four words that came in -/
theorem open_arr4 {t e : TypeId} (ht : P.underlying t = some (.array 4 e)) (hce : P.cellsOf e = 1) (hct : P.cellsOf t = 4) (he : P.underlying e = some (.int .u64)) {r : Reach} {b0 : Nat} {v : Value} {d : DataW H} {ps : List MemPlace}
    (hval : Value.okWide P W r b0 t v) (hd : DataW.Trod enc P W base spare held t v d ps) :
    ∃ a b c d' : Int, v = .agg #[.int .u64 a, .int .u64 b, .int .u64 c, .int .u64 d'] ∧ d = .agg [.lit (.int .u64 a), .lit (.int .u64 b), .lit (.int .u64 c), .lit (.int .u64 d')] ∧ ps = [] ∧
      (Lit.int .u64 a).wf = true ∧ (Lit.int .u64 b).wf = true ∧ (Lit.int .u64 c).wf = true ∧ (Lit.int .u64 d').wf = true := by
  simp only [Value.okWide, ht] at hval
  obtain ⟨cs, rfl, h2, _⟩ := hval
  rw [hct] at h2
  obtain ⟨xs, rfl⟩ : ∃ xs : List Value, cs = xs.toArray := ⟨cs.toList, by simp⟩
  match xs, h2 with
  | [c0, c1, c2, c3], _ =>
    obtain ⟨fuel, hf⟩ := hd
    obtain ⟨y0, y1, y2, y3, n, e1, h0, h1, h2, h3⟩ := trod_array4 ht hce hf
    obtain ⟨a, ea, rfl, wa⟩ := DataW.trod_int he h0
    obtain ⟨b, eb, rfl, wb⟩ := DataW.trod_int he h1
    obtain ⟨c, ec, rfl, wc⟩ := DataW.trod_int he h2
    obtain ⟨d', ed, rfl, wd⟩ := DataW.trod_int he h3
    simp only [List.cons.injEq, and_true] at ea eb ec ed
    subst ea eb ec ed
    simp only [Prod.mk.injEq, List.append_nil] at e1
    exact ⟨a, b, c, d', rfl, e1.1, e1.2, wa, wb, wc, wd⟩
theorem shut_arr4 {t e : TypeId} (ht : P.underlying t = some (.array 4 e)) (hce : P.cellsOf e = 1) (hct : P.cellsOf t = 4) (he : P.underlying e = some (.int .u64)) {a b c d : Int}
    (wa : (Lit.int .u64 a).wf = true) (wb : (Lit.int .u64 b).wf = true) (wc : (Lit.int .u64 c).wf = true) (wd : (Lit.int .u64 d).wf = true) :
    DataW.Trod enc P W base spare held t (.agg #[.int .u64 a, .int .u64 b, .int .u64 c, .int .u64 d]) (.agg [.lit (.int .u64 a), .lit (.int .u64 b), .lit (.int .u64 c), .lit (.int .u64 d)]) [] := by
  refine ⟨2, ?_⟩
  have r4 : List.range 4 = [0, 1, 2, 3] := rfl
  unfold DataW.trod
  rw [ht]
  simp [r4, hce, hct, Value.cells, trod_int_mk 0 he wa, trod_int_mk 0 he wb, trod_int_mk 0 he wc, trod_int_mk 0 he wd]
end
theorem u64_of {a : Int} (h : (Lit.int .u64 a).wf = true) : a = ((UInt64.ofNat a.toNat).toNat : Int) := by
  have h' : 0 ≤ a ∧ a ≤ 18446744073709551615 := by
    simpa [Lit.wf, IntKind.has, IntKind.min, IntKind.max, IntKind.signed, IntKind.bits] using h
  rw [UInt64.toNat_ofNat', Nat.mod_eq_of_lt (by omega)]
  omega
/-- A promise over frozen values, as the row's walk. -/
theorem calls_of_pcf {P : Program} {f : FuncId} {fs : List FV} {vals : Array Value} (h : PC P f fs (· = .v (.bool true))) (W : World) (hv : FRs (fun _ => False) W fs vals.toList) :
    Calls P f vals W fun e W' => e = .returned (.bool true) ∧ Quiet W W' := by
  refine (h (fun _ => False) W vals (fun _ h => h.elim) hv).mono ?_
  rintro e W' ⟨v, r, S', rfl, rfl, _, _, hq, hv⟩
  simp only [FR] at hv
  rw [hv.1]
  exact ⟨rfl, hq⟩
end Go.Proofs.YtddbbfonkgccnaaDoor
