/-
  Walks and plain laws towards the statements of this seat (Sh). Conditions: those that each theorem names.
-/
import Derived.Test.YtclnfgmcpodeaaaDoorBase
import Derived.Test.YtclnfgmcpodeaaaDoorShelf
import Derived.Test.YtclnfgmcpodeaaaDoorFwB
set_option linter.unusedVariables false
set_option linter.unusedSimpArgs false
namespace Go.Proofs
open Go Go.Fw Go.RowKit Go.Sort
set_option maxHeartbeats 2000000
/- the library's contracts over rows of ints, as promises -/
theorem row_int {S : Nat → Prop} {w : World} : ∀ {l : List Int} {ys : List Value}, FRrow S w 1 (l.map intF) ys → ∀ j, j < l.length → ys[j]? = some (.int .i64 (l.getD j 0))
  | [], _, _, j, hj => by simp at hj
  | x :: l, ys, h, j, hj => by
    simp only [List.map_cons, FRrow, intF, FR] at h
    obtain ⟨⟨y, ⟨rfl, _⟩, h1, _, _⟩, h2⟩ := h
    cases ys with
    | nil => simp [Value.cells] at h1
    | cons y ys =>
      simp [Value.cells] at h1
      cases j with
      | zero => simp [h1]
      | succ j => simpa using row_int (S := S) (w := w) (l := l) (ys := ys) (by simpa using h2) j (by simpa using hj)
theorem int_row {S : Nat → Prop} {w : World} : ∀ {l : List Int} {ys : List Value}, (∀ j, j < l.length → ys[j]? = some (.int .i64 (l.getD j 0))) → FRrow S w 1 (l.map intF) ys
  | [], _, _ => by simp [FRrow]
  | x :: l, ys, h => by
    have h0 := h 0 (by simp)
    cases ys with
    | nil => simp at h0
    | cons y ys =>
      simp at h0
      subst h0
      simp only [List.map_cons, FRrow]
      refine ⟨⟨.int .i64 x, by simp [FR, intF, Value.oneCell'], by simp [Value.cells], by simp [Value.cells], by simp [Value.cells, Value.oneCell']⟩, ?_⟩
      refine int_row (fun j hj => ?_)
      have := h (j + 1) (by simpa using hj)
      simpa using this
/-- a row of ints that came in -/
theorem ints_at {S : Nat → Prop} {w : World} {l : List Int} {y : Value} (h : FR S w (.sl 1 (l.map intF)) y) : (l = [] ∧ ∃ a c, y = .slice a 0 c) ∨
    ∃ b o c, y = .slice (some ⟨b, o, none⟩) l.length c ∧ l.length ≤ c ∧ ∀ j, j < l.length → w.cell? ⟨b, o + j, none⟩ = some (.int .i64 (l.getD j 0)) := by
  simp only [FR] at h
  rcases h with ⟨h1, h2⟩ | ⟨b, o, c, cs, T, fz, rfl, hb, hh, hr, hle⟩
  · exact .inl ⟨by simpa using h1, h2⟩
  · refine .inr ⟨b, o, c, by simp, by simpa using hle, fun j hj => ?_⟩
    have := row_int hr j hj
    simp only [World.cell?, hh, Option.isSome_none, Bool.false_eq_true, if_false]
    rw [List.getElem?_drop] at this
    simpa using this
theorem pc_ints {f : FuncId} {l : List Int} {xs : List Value} {r : Value} (hx : ∀ x ∈ xs, x.oneCell' = true) (hr1 : r.oneCell' = true) (h0 : l = [] → ∀ a c w, Calls Tryd.prog f (.slice a 0 c :: xs).toArray w fun e w' => e = .returned r ∧ w' = w)
    (h1 : ∀ b o c w, l.length ≤ c → (∀ j, j < l.length → w.cell? ⟨b, o + j, none⟩ = some (.int .i64 (l.getD j 0))) → Calls Tryd.prog f (.slice (some ⟨b, o, none⟩) l.length c :: xs).toArray w fun e w' => e = .returned r ∧ w' = w) :
    PC Tryd.prog f (.sl 1 (l.map intF) :: xs.map .v) (· = .v r) := by
  intro S w vals hS hv
  simp only [FRs] at hv
  obtain ⟨y, ys, e, hy, hv⟩ := hv
  have hys : ∀ (xs : List Value) (ys : List Value), FRs S w (xs.map .v) ys → ys = xs := by
    intro xs
    induction xs with
    | nil => intro ys h; simpa only [List.map_nil, FRs] using h
    | cons x xs ih =>
      intro ys h
      simp only [List.map_cons, FRs, FR] at h
      obtain ⟨y, ys', rfl, ⟨rfl, _⟩, h2⟩ := h
      rw [ih _ h2]
  rw [hys xs ys hv] at e
  have ev : vals = (y :: xs).toArray := by rw [← Array.toArray_toList (xs := vals), e]
  rw [ev]
  have fin : ∀ e w', e = Ending.returned r ∧ w' = w → ∃ v r' S', e = .returned v ∧ r' = FV.v r ∧ (∀ b, S b → S' b) ∧ (∀ b, S' b → S b ∨ (w.heap.size ≤ b ∧ b < w'.heap.size)) ∧ Quiet w w' ∧ FR S' w' r' v := by
    rintro e w' ⟨rfl, rfl⟩
    exact ⟨r, _, S, rfl, rfl, fun _ h => h, fun _ h => .inl h, .refl _, by simp [FR, hr1]⟩
  rcases ints_at hy with ⟨hl, a, c, rfl⟩ | ⟨b, o, c, rfl, hle, hc⟩
  · exact (h0 hl a c w).mono fin
  · exact (h1 b o c w hle hc).mono fin
theorem p_min (l : List Int) (hl : l.length < 1000000000) (h0 : l ≠ []) : PC Tryd.prog 28 [.sl 1 (l.map intF)] (· = .v (.int .i64 (Lib.minOf l))) :=
  pc_ints (xs := []) (by simp) rfl (fun h => absurd h h0) fun b o c w hle hc => by
    have := Tryd.slices_Min_int b o l.length c l w (List.length_pos_iff.2 h0) (Nat.le_refl _) (by omega) hc
    rwa [List.take_length] at this
theorem p_max (l : List Int) (hl : l.length < 1000000000) (h0 : l ≠ []) : PC Tryd.prog 29 [.sl 1 (l.map intF)] (· = .v (.int .i64 (Lib.maxOf l))) :=
  pc_ints (xs := []) (by simp) rfl (fun h => absurd h h0) fun b o c w hle hc => by
    have := Tryd.slices_Max_int b o l.length c l w (List.length_pos_iff.2 h0) (Nat.le_refl _) (by omega) hc
    rwa [List.take_length] at this
theorem p_contains (l : List Int) (x : Int) (hl : l.length < 1000000000) : PC Tryd.prog 43 [.sl 1 (l.map intF), .v (.int .i64 x)] (· = .v (.bool (l.contains x))) :=
  pc_ints (xs := [.int .i64 x]) (by simp [Value.oneCell']) rfl (fun h a c w => by subst h; exact Tryd.slices_Contains_int_empty a c x w) fun b o c w hle hc => by
    have := Tryd.slices_Contains_int b o l.length c l x w (Nat.le_refl _) (by omega) hc
    rwa [List.take_length] at this
theorem p_itoa (i : Nat) (hi : i < 100) : PC Tryd.prog 70 [.v (.int .i64 i)] (· = .v (str (Lib.decDigits i))) := by
  have := PC.of_calls (P := Tryd.prog) (f := 70) (xs := [.int .i64 i]) (v := str (Lib.decDigits i)) (r := .v (str (Lib.decDigits i))) (fun S w => by simp [FR, Value.oneCell', str]) (fun w => by
    refine (Tryd.strconv_Itoa_small i hi w).mono ?_
    rintro e w' ⟨rfl, rfl⟩
    exact ⟨rfl, .refl _⟩)
  exact this
end Go.Proofs
