/-
  Walks and plain laws towards the statements of this seat (RowShows). Conditions: those that each theorem names.
-/
import Derived.Test.YtddbbfonkgccnaaDoorRowB
import Derived.Test.YtddbbfonkgccnaaDoorLex20
set_option linter.unusedVariables false
namespace Go.Proofs.YtddbbfonkgccnaaDoor
open Go Go.Fw Go.ChangeMaps Go.ChangeShapes Go.WideShapes Go.ChangeAt Go.RowKit
namespace lexShows
set_option maxRecDepth 100000 in
theorem contract (H : Type) (enc : TypeId × Value → H) (W : World) (base : Nat) (args : Array Value) (ds gs : List (DataW H)) (before : List MemPlace)
    (hval : ∀ (j : Nat) t v, Tryd.f5.params[j]? = some t → args[j]? = some v → Value.okWide Tryd.prog W .any base t v)
    (hW : DataW.Whole enc Tryd.prog Tryd.f5.params.toList Rows.lexShowsSpec.vars false W args.toList ds gs before)
    (hwt : (DataW.weightsEach Tryd.prog (Tryd.f5.params.toList ++ (OpenSpec.ofChange Rows.lexShowsSpec).bare.plain.varTypes Tryd.prog) (ds ++ gs)).all (· ≤ reachBytes) = true) :
    Calls Tryd.prog 5 args W fun e W' => ∃ v, e = .returned v ∧ Rows.lexShowsSpec.post enc Tryd.prog Tryd.f5 false true false false W args v W' := by
  have hW' := hW
  obtain ⟨p, q, hA0, hV, rfl, hfz, hnd⟩ := hW
  have hA : DataW.TrodAll enc Tryd.prog W 0 (fun _ => true) true Tryd.f5.params.toList args.toList ds p := hA0
  rw [Tryd.params5] at hA hval hwt
  obtain ⟨v0, vs0, d0, ds0, p0, q0, hargs, rfl, rfl, h0, r0⟩ := trodAll_cons hA
  obtain ⟨v1, vs1, d1, ds1, p1, q1, rfl, rfl, rfl, h1, r1⟩ := trodAll_cons r0
  obtain ⟨rfl, rfl, rfl⟩ := trodAll_nil r1
  obtain rfl : args = #[v0, v1] := by cases args; simp_all
  obtain ⟨rfl, rfl⟩ := trodVars_none hV
  obtain ⟨b, rfl, rfl, rfl, wb⟩ := open_string Tryd.underlying9 (hval 0 9 v0 rfl rfl) h0
  obtain ⟨x0, x1, x2, x3, rfl, rfl, rfl, y0, y1, y2, y3⟩ := open_arr4 Tryd.underlying28 (by kernel_rfl) (by kernel_rfl) Tryd.underlying26 (hval 1 28 v1 rfl rfl) h1
  clear hA0
  simp only [List.append_nil] at hW'
  have hm : maxLen < 9223372036854775808 := by decide
  have hb : b.data.toList.length < 9223372036854775808 := by
    have : b.data.toList.length = b.size := rfl
    omega
  have hfr : FRs (fun _ => False) W [.v (str b.data.toList), setW ⟨UInt64.ofNat x0.toNat, UInt64.ofNat x1.toNat, UInt64.ofNat x2.toNat, UInt64.ofNat x3.toNat⟩] #[Value.string b, .agg #[.int .u64 x0, .int .u64 x1, .int .u64 x2, .int .u64 x3]].toList := by
    have e0 := u64_of y0
    have e1 := u64_of y1
    have e2 := u64_of y2
    have e3 := u64_of y3
    simp only [FRs, FR, setW, setF, u64]
    refine ⟨_, _, rfl, ⟨rfl, rfl⟩, _, _, rfl, ⟨_, rfl, ⟨_, _, rfl, ⟨by rw [← e0], rfl⟩, _, _, rfl, ⟨by rw [← e1], rfl⟩, _, _, rfl, ⟨by rw [← e2], rfl⟩, _, _, rfl, ⟨by rw [← e3], rfl⟩, rfl⟩, ?_⟩, rfl⟩
    intro z hz
    simp at hz
    rcases hz with rfl | rfl | rfl | rfl <;> rfl
  refine (calls_of_pcf (p_shows b.data.toList _ hb) W hfr).mono ?_
  rintro e W' ⟨rfl, hq⟩
  refine ⟨_, rfl, post_quiet (pa := []) (pv := []) hW' (fun _ _ _ => trodAll_cons_mk (shut_bool Tryd.underlying4 _) trodAll_mk0)
    (fun _ _ => trodAll_cons_mk (shut_string Tryd.underlying9 wb) (trodAll_cons_mk (shut_arr4 Tryd.underlying28 (by kernel_rfl) (by kernel_rfl) Tryd.underlying26 y0 y1 y2 y3) trodAll_mk0)) (fun _ _ => rfl) rfl
    hq (ok_one (by kernel_rfl) rfl (okWide_bool_mk Tryd.underlying4 _))⟩

theorem reads (os : Os) {H : Type} (enc : TypeId × Value → H) : ∃ places, DataW.whole enc Tryd.prog ((laidWorld os).forCall (fun _ _ => 0) ⟨#[], #[.string ⟨#[]⟩, .agg #[.int .u64 0, .int .u64 0, .int .u64 0, .int .u64 0]], []⟩).memory Tryd.f5.params.toList Rows.lexShowsSpec.vars false #[Value.string ⟨#[]⟩, .agg #[.int .u64 0, .int .u64 0, .int .u64 0, .int .u64 0]].toList 8 = some ([.lit (.string []), .agg [.lit (.int .u64 0), .lit (.int .u64 0), .lit (.int .u64 0), .lit (.int .u64 0)]], [], places) :=
  ⟨[], by kernel_rfl⟩
set_option maxRecDepth 100000 in
theorem lifted (os : Os) (started : os.Started) (H : Type) (enc : TypeId × Value → H) (F : Stop.Interp) :
    ReturnsInHanded {} Tryd.checked os 5 .any ((OpenSpec.ofChange Rows.lexShowsSpec).preRow enc Tryd.prog Tryd.f5 Rows.lexShowsRow.domain false Rows.lexShowsRow.laid) (((OpenSpec.ofChange Rows.lexShowsSpec).at F).post enc Tryd.prog Tryd.f5 false true false false) := by
  obtain ⟨places, hx⟩ := reads os enc
  refine returnsInHanded_of_row (C := Tryd.checked) (s := OpenSpec.ofChange Rows.lexShowsSpec) own started (by kernel_rfl) Tryd.func5
    (witness_row_at (enc := enc) (C := Tryd.checked) false (laidWorld os) #[.string ⟨#[]⟩, .agg #[.int .u64 0, .int .u64 0, .int .u64 0, .int .u64 0]] rfl (by kernel_rfl) (by kernel_rfl) (by kernel_rfl)
      (OpenSpec.preRow_of_cond 8 hx (by kernel_rfl) (fun k hk => by cases hk) (by kernel_rfl) (laid_met os _))) ?_
  intro W base args ds gs before hval hW _ _ hwt hL _ _
  exact contract H enc W base args ds gs before hval hW hwt
theorem said : Rows.LexShowsSaid :=
  OpenClaim.holds_of_cond 5 Tryd.f5 rfl rfl rfl rfl rfl rfl rfl ⟨rfl, rfl, rfl, rfl, rfl⟩ rfl rfl rfl rfl rfl (by kernel_rfl) Tryd.func5 (by kernel_rfl)
    (of_decide_eq_true (by kernel_rfl)) (by unfold Func.isWrapper; first | (rw [if_pos (by decide +kernel)]; kernel_rfl) | (rw [if_neg (by decide +kernel)]; exact ⟨rfl, rfl⟩))
    (fun os started H enc _ F => by rw [OpenClaim.pre_eq_preRow]; exact lifted os started H enc F)
theorem plain (f : FuncId) (fn : Func) (hf : Tryd.pinned.checked.prog.funcNamed "whittle/whittlelaw06.LexShows" = some f) (hfn : Tryd.pinned.checked.prog.funcs[f]? = some fn) :
    true = Tryd.pinned.checked.prog.looks [] ∧ ∀ (j : Nat) t, fn.params[j]? = some t → Tryd.pinned.checked.prog.wantsStandIn t = false := by
  obtain rfl : f = 5 := Option.some.inj ((show Tryd.prog.funcNamed "whittle/whittlelaw06.LexShows" = some 5 by kernel_rfl).symm.trans hf) |>.symm
  obtain rfl : fn = Tryd.f5 := (Option.some.inj (Tryd.func5.symm.trans hfn)).symm
  refine ⟨by kernel_rfl, fun j t ht => ?_⟩
  rw [Tryd.params5] at ht
  have hm : t ∈ [9, 28] := by simpa using Array.mem_of_getElem? ht
  have hall : ([9, 28].all fun u => !Tryd.prog.wantsStandIn u) = true := by kernel_rfl
  exact (show Tryd.prog.wantsStandIn t = false by simpa using List.all_eq_true.1 hall t hm)
theorem card : Rows.LexShowsCardSaid :=
  Claim7.holds_tied_plain_at .later [] _ _ _ _ said (fun _ h => by cases h) (by kernel_rfl) (fun _ h => by cases h) lexShows_row_tie rfl ⟨rfl, rfl⟩ (by kernel_rfl) rfl plain (by kernel_rfl)
#print axioms card
end lexShows
end Go.Proofs.YtddbbfonkgccnaaDoor
