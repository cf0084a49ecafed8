/-
  Walks and plain laws towards the statements of this seat (RowBack). Conditions: those that each theorem names.
-/
import Derived.Test.YtddbbfonkgccnaaDoorRowA
import Derived.Laws.IdiomArrays
import Derived.Test.YtddbbfonkgccnaaDoorLex19
set_option linter.unusedVariables false
namespace Go.Proofs.YtddbbfonkgccnaaDoor
open Go Go.Fw Go.ChangeMaps Go.ChangeShapes Go.WideShapes Go.ChangeAt Go.RowKit
section
variable {H : Type} {enc : TypeId × Value → H} {P : Program} {W : World} {base : Nat} {spare : Nat → Bool} {held : Bool}
/-- an array of four words that came in -/
theorem open_arr4 {t e : TypeId} (ht : P.underlying t = some (.array 4 e)) (hce : P.cellsOf e = 1) (hct : P.cellsOf t = 4) (he : P.underlying e = some (.int .u64)) {r : Reach} {b0 : Nat} {v : Value} {d : DataW H} {ps : List MemPlace}
    (hval : Value.okWide P W r b0 t v) (hd : DataW.Trod enc P W base spare held t v d ps) :
    ∃ a b c d' : Int, v = .agg #[.int .u64 a, .int .u64 b, .int .u64 c, .int .u64 d'] ∧ d = .agg [.lit (.int .u64 a), .lit (.int .u64 b), .lit (.int .u64 c), .lit (.int .u64 d')] ∧ ps = [] ∧
      (Lit.int .u64 a).wf = true ∧ (Lit.int .u64 b).wf = true ∧ (Lit.int .u64 c).wf = true ∧ (Lit.int .u64 d').wf = true := by
  simp only [Value.okWide, ht] at hval
  obtain ⟨cs, rfl, h2, _⟩ := hval
  rw [hct] at h2
  obtain ⟨xs, rfl⟩ : ∃ xs : List Value, cs = xs.toArray := ⟨cs.toList, by simp⟩
  match xs, h2 with
  | [c0, c1, c2, c3], _ =>
    obtain ⟨fuel, hf⟩ := hd
    obtain ⟨y0, y1, y2, y3, n, e1, h0, h1, h2, h3⟩ := trod_array4 ht hce hf
    obtain ⟨a, ea, rfl, wa⟩ := DataW.trod_int he h0
    obtain ⟨b, eb, rfl, wb⟩ := DataW.trod_int he h1
    obtain ⟨c, ec, rfl, wc⟩ := DataW.trod_int he h2
    obtain ⟨d', ed, rfl, wd⟩ := DataW.trod_int he h3
    simp only [List.cons.injEq, and_true] at ea eb ec ed
    subst ea eb ec ed
    simp only [Prod.mk.injEq, List.append_nil] at e1
    exact ⟨a, b, c, d', rfl, e1.1, e1.2, wa, wb, wc, wd⟩
theorem shut_arr4 {t e : TypeId} (ht : P.underlying t = some (.array 4 e)) (hce : P.cellsOf e = 1) (hct : P.cellsOf t = 4) (he : P.underlying e = some (.int .u64)) {a b c d : Int}
    (wa : (Lit.int .u64 a).wf = true) (wb : (Lit.int .u64 b).wf = true) (wc : (Lit.int .u64 c).wf = true) (wd : (Lit.int .u64 d).wf = true) :
    DataW.Trod enc P W base spare held t (.agg #[.int .u64 a, .int .u64 b, .int .u64 c, .int .u64 d]) (.agg [.lit (.int .u64 a), .lit (.int .u64 b), .lit (.int .u64 c), .lit (.int .u64 d)]) [] := by
  refine ⟨2, ?_⟩
  have r4 : List.range 4 = [0, 1, 2, 3] := rfl
  unfold DataW.trod
  rw [ht]
  simp [r4, hce, hct, Value.cells, trod_int_mk 0 he wa, trod_int_mk 0 he wb, trod_int_mk 0 he wc, trod_int_mk 0 he wd]
end
theorem u64_of {a : Int} (h : (Lit.int .u64 a).wf = true) : a = ((UInt64.ofNat a.toNat).toNat : Int) := by
  have h' : 0 ≤ a ∧ a ≤ 18446744073709551615 := by
    simpa [Lit.wf, IntKind.has, IntKind.min, IntKind.max, IntKind.signed, IntKind.bits] using h
  rw [UInt64.toNat_ofNat', Nat.mod_eq_of_lt (by omega)]
  omega
/-- A promise over frozen values, as the row's walk. -/
theorem calls_of_pcf {P : Program} {f : FuncId} {fs : List FV} {vals : Array Value} (h : PC P f fs (· = .v (.bool true))) (W : World) (hv : FRs (fun _ => False) W fs vals.toList) :
    Calls P f vals W fun e W' => e = .returned (.bool true) ∧ Quiet W W' := by
  refine (h (fun _ => False) W vals (fun _ h => h.elim) hv).mono ?_
  rintro e W' ⟨v, r, S', rfl, rfl, _, _, hq, hv⟩
  simp only [FR] at hv
  rw [hv.1]
  exact ⟨rfl, hq⟩
namespace lexBack
set_option maxRecDepth 100000 in
theorem contract (H : Type) (enc : TypeId × Value → H) (W : World) (base : Nat) (args : Array Value) (ds gs : List (DataW H)) (before : List MemPlace)
    (hval : ∀ (j : Nat) t v, Tryd.f6.params[j]? = some t → args[j]? = some v → Value.okWide Tryd.prog W .any base t v)
    (hW : DataW.Whole enc Tryd.prog Tryd.f6.params.toList Rows.lexBackSpec.vars false W args.toList ds gs before)
    (hwt : (DataW.weightsEach Tryd.prog (Tryd.f6.params.toList ++ (OpenSpec.ofChange Rows.lexBackSpec).bare.plain.varTypes Tryd.prog) (ds ++ gs)).all (· ≤ reachBytes) = true) :
    Calls Tryd.prog 6 args W fun e W' => ∃ v, e = .returned v ∧ Rows.lexBackSpec.post enc Tryd.prog Tryd.f6 false true false false W args v W' := by
  have hW' := hW
  obtain ⟨p, q, hA0, hV, rfl, hfz, hnd⟩ := hW
  have hA : DataW.TrodAll enc Tryd.prog W 0 (fun _ => true) true Tryd.f6.params.toList args.toList ds p := hA0
  rw [Tryd.params6] at hA hval hwt
  obtain ⟨v0, vs0, d0, ds0, p0, q0, hargs, rfl, rfl, h0, r0⟩ := trodAll_cons hA
  obtain ⟨v1, vs1, d1, ds1, p1, q1, rfl, rfl, rfl, h1, r1⟩ := trodAll_cons r0
  obtain ⟨v2, vs2, d2, ds2, p2, q2, rfl, rfl, rfl, h2, r2⟩ := trodAll_cons r1
  obtain ⟨rfl, rfl, rfl⟩ := trodAll_nil r2
  obtain rfl : args = #[v0, v1, v2] := by cases args; simp_all
  obtain ⟨rfl, rfl⟩ := trodVars_none hV
  obtain ⟨b, rfl, rfl, rfl, wb⟩ := open_string Tryd.underlying9 (hval 0 9 v0 rfl rfl) h0
  obtain ⟨x0, x1, x2, x3, rfl, rfl, rfl, y0, y1, y2, y3⟩ := open_arr4 Tryd.underlying28 (by kernel_rfl) (by kernel_rfl) Tryd.underlying26 (hval 1 28 v1 rfl rfl) h1
  obtain ⟨r, rfl, rfl, rfl, wr⟩ := open_string Tryd.underlying9 (hval 2 9 v2 rfl rfl) h2
  clear hA0
  simp only [List.append_nil] at hW'
  have hm : maxLen < 9223372036854775808 := by decide
  have hb : b.data.toList.length < 9223372036854775808 := by
    have : b.data.toList.length = b.size := rfl
    omega
  have hr : r.data.toList.length < 9223372036854775808 := by
    have : r.data.toList.length = r.size := rfl
    omega
  have hfr : FRs (fun _ => False) W [.v (str b.data.toList), setW ⟨UInt64.ofNat x0.toNat, UInt64.ofNat x1.toNat, UInt64.ofNat x2.toNat, UInt64.ofNat x3.toNat⟩, .v (str r.data.toList)] #[Value.string b, .agg #[.int .u64 x0, .int .u64 x1, .int .u64 x2, .int .u64 x3], .string r].toList := by
    have e0 := u64_of y0
    have e1 := u64_of y1
    have e2 := u64_of y2
    have e3 := u64_of y3
    simp only [FRs, FR, setW, setF, u64]
    refine ⟨_, _, rfl, ⟨rfl, rfl⟩, _, _, rfl, ⟨_, rfl, ⟨_, _, rfl, ⟨by rw [← e0], rfl⟩, _, _, rfl, ⟨by rw [← e1], rfl⟩, _, _, rfl, ⟨by rw [← e2], rfl⟩, _, _, rfl, ⟨by rw [← e3], rfl⟩, rfl⟩, ?_⟩, _, _, rfl, ⟨rfl, rfl⟩, rfl⟩
    intro z hz
    simp at hz
    rcases hz with rfl | rfl | rfl | rfl <;> rfl
  refine (calls_of_pcf (p_back b.data.toList r.data.toList _ hb hr) W hfr).mono ?_
  rintro e W' ⟨rfl, hq⟩
  refine ⟨_, rfl, post_quiet (pa := []) (pv := []) hW' (fun _ _ _ => trodAll_cons_mk (shut_bool Tryd.underlying4 _) trodAll_mk0)
    (fun _ _ => trodAll_cons_mk (shut_string Tryd.underlying9 wb) (trodAll_cons_mk (shut_arr4 Tryd.underlying28 (by kernel_rfl) (by kernel_rfl) Tryd.underlying26 y0 y1 y2 y3) (trodAll_cons_mk (shut_string Tryd.underlying9 wr) trodAll_mk0))) (fun _ _ => rfl) rfl
    hq (ok_one (by kernel_rfl) rfl (okWide_bool_mk Tryd.underlying4 _))⟩

theorem reads (os : Os) {H : Type} (enc : TypeId × Value → H) : ∃ places, DataW.whole enc Tryd.prog ((laidWorld os).forCall (fun _ _ => 0) ⟨#[], #[.string ⟨#[]⟩, .agg #[.int .u64 0, .int .u64 0, .int .u64 0, .int .u64 0], .string ⟨#[]⟩], []⟩).memory Tryd.f6.params.toList Rows.lexBackSpec.vars false #[Value.string ⟨#[]⟩, .agg #[.int .u64 0, .int .u64 0, .int .u64 0, .int .u64 0], .string ⟨#[]⟩].toList 8 = some ([.lit (.string []), .agg [.lit (.int .u64 0), .lit (.int .u64 0), .lit (.int .u64 0), .lit (.int .u64 0)], .lit (.string [])], [], places) :=
  ⟨[], by kernel_rfl⟩
set_option maxRecDepth 100000 in
theorem lifted (os : Os) (started : os.Started) (H : Type) (enc : TypeId × Value → H) (F : Stop.Interp) :
    ReturnsInHanded {} Tryd.checked os 6 .any ((OpenSpec.ofChange Rows.lexBackSpec).preRow enc Tryd.prog Tryd.f6 Rows.lexBackRow.domain false Rows.lexBackRow.laid) (((OpenSpec.ofChange Rows.lexBackSpec).at F).post enc Tryd.prog Tryd.f6 false true false false) := by
  obtain ⟨places, hx⟩ := reads os enc
  refine returnsInHanded_of_row (C := Tryd.checked) (s := OpenSpec.ofChange Rows.lexBackSpec) own started (by kernel_rfl) Tryd.func6
    (witness_row_at (enc := enc) (C := Tryd.checked) false (laidWorld os) #[.string ⟨#[]⟩, .agg #[.int .u64 0, .int .u64 0, .int .u64 0, .int .u64 0], .string ⟨#[]⟩] rfl (by kernel_rfl) (by kernel_rfl) (by kernel_rfl)
      (OpenSpec.preRow_of_cond 8 hx (by kernel_rfl) (fun k hk => by cases hk) (by kernel_rfl) (laid_met os _))) ?_
  intro W base args ds gs before hval hW _ _ hwt hL _ _
  exact contract H enc W base args ds gs before hval hW hwt
theorem said : Rows.LexBackSaid :=
  OpenClaim.holds_of_cond 6 Tryd.f6 rfl rfl rfl rfl rfl rfl rfl ⟨rfl, rfl, rfl, rfl, rfl⟩ rfl rfl rfl rfl rfl (by kernel_rfl) Tryd.func6 (by kernel_rfl)
    (of_decide_eq_true (by kernel_rfl)) (by unfold Func.isWrapper; first | (rw [if_pos (by decide +kernel)]; kernel_rfl) | (rw [if_neg (by decide +kernel)]; exact ⟨rfl, rfl⟩))
    (fun os started H enc _ F => by rw [OpenClaim.pre_eq_preRow]; exact lifted os started H enc F)
theorem plain (f : FuncId) (fn : Func) (hf : Tryd.pinned.checked.prog.funcNamed "whittle/whittlelaw06.LexBack" = some f) (hfn : Tryd.pinned.checked.prog.funcs[f]? = some fn) :
    true = Tryd.pinned.checked.prog.looks [] ∧ ∀ (j : Nat) t, fn.params[j]? = some t → Tryd.pinned.checked.prog.wantsStandIn t = false := by
  obtain rfl : f = 6 := Option.some.inj ((show Tryd.prog.funcNamed "whittle/whittlelaw06.LexBack" = some 6 by kernel_rfl).symm.trans hf) |>.symm
  obtain rfl : fn = Tryd.f6 := (Option.some.inj (Tryd.func6.symm.trans hfn)).symm
  refine ⟨by kernel_rfl, fun j t ht => ?_⟩
  rw [Tryd.params6] at ht
  have hm : t ∈ [9, 28, 9] := by simpa using Array.mem_of_getElem? ht
  have hall : ([9, 28, 9].all fun u => !Tryd.prog.wantsStandIn u) = true := by kernel_rfl
  exact (show Tryd.prog.wantsStandIn t = false by simpa using List.all_eq_true.1 hall t hm)
theorem card : Rows.LexBackCardSaid :=
  Claim7.holds_tied_plain_at .later [] _ _ _ _ said (fun _ h => by cases h) (by kernel_rfl) (fun _ h => by cases h) lexBack_row_tie rfl ⟨rfl, rfl⟩ (by kernel_rfl) rfl plain (by kernel_rfl)
#print axioms card
end lexBack
end Go.Proofs.YtddbbfonkgccnaaDoor
