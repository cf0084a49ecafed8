/-
  Walks and plain laws towards the statements of this seat (Lex15). Conditions: those that each theorem names.
-/
import Derived.Test.YtddbbfonkgccnaaDoorLex14
set_option linter.unusedVariables false
set_option linter.unusedSimpArgs false
namespace Go.Proofs
open Go Go.Fw
/- plain law: what is read within a text is read so whatever stands behind a line's end -/
theorem getD_app {u v : List UInt8} {i : Nat} (h : i < u.length) : (u ++ v).getD i 0 = u.getD i 0 := by
  simp only [List.getD, List.getElem?_append_left h]
theorem drop_app {u v : List UInt8} {i : Nat} (h : i ≤ u.length) : (u ++ v).drop i = u.drop i ++ v := List.drop_append_of_le_length h
theorem six_loc {u v : List UInt8} (h : (sixR u).2.1 = 0) : sixR (u ++ v) = sixR u := by
  unfold sixR at h
  by_cases h0 : u.length = 0
  · rw [if_pos h0] at h; exact absurd h (by simp)
  rw [if_neg h0] at h
  by_cases h1 : Lib.indexByte hexS (u.getD 0 0) < 0
  · rw [if_pos h1] at h; exact absurd h (by simp)
  rw [if_neg h1] at h
  by_cases h2 : u.length = 1
  · rw [if_pos h2] at h; exact absurd h (by simp)
  unfold sixR
  rw [getD_app (by omega), getD_app (by omega), List.length_append, if_neg (by omega), if_neg h1, if_neg (by omega), if_neg h0, if_neg h1, if_neg h2]
theorem one_loc {u v : List UInt8} (h : (oneR u).2.1 = 0) : oneR (u ++ v) = oneR u := by
  unfold oneR at h
  by_cases h0 : u.length = 0
  · rw [if_pos h0] at h; exact absurd h (by simp)
  rw [if_neg h0] at h
  have e0 : (u ++ v).getD 0 0 = u.getD 0 0 := getD_app (by omega)
  unfold oneR
  rw [e0, List.length_append, if_neg h0, if_neg (by omega)]
  by_cases h1 : plainB (u.getD 0 0) = true
  · rw [if_pos h1, if_pos h1]
  rw [if_neg h1] at h
  rw [if_neg h1, if_neg h1]
  by_cases h2 : u.getD 0 0 ≠ 92
  · rw [if_pos h2] at h; exact absurd h (by simp)
  rw [if_neg h2] at h
  rw [if_neg h2, if_neg h2]
  by_cases h3 : u.length = 1
  · rw [if_pos h3] at h; exact absurd h (by simp)
  rw [if_neg h3] at h
  rw [if_neg h3, if_neg (by omega)]
  rw [getD_app (by omega), drop_app (by omega)]
  by_cases h4 : bentS.contains (u.getD 1 0) = true
  · rw [if_pos h4, if_pos h4]
  rw [if_neg h4] at h
  rw [if_neg h4, if_neg h4]
  by_cases h5 : u.getD 1 0 = 120
  · rw [if_pos h5] at h
    rw [if_pos h5, if_pos h5, six_loc h]
  · rw [if_neg h5, if_neg h5]
theorem head_loc {u v : List UInt8} {c d : UInt8} (hc : d ≠ c) : headIs (u ++ d :: v) c = headIs u c := by
  unfold headIs
  cases u with
  | nil => simp; exact hc
  | cons x u => simp
theorem part_loc {u v : List UInt8} {d : UInt8} (hd : d ≠ 45) (h : (partR u).1 = 0) : partR (u ++ d :: v) = partR u := by
  have ho : (oneR u).2.1 = 0 := by
    unfold partR at h
    split at h
    · rename_i hc; exact hc.1
    · exact h
  have hl := one_ok ho
  unfold partR at h ⊢
  rw [one_loc ho, drop_app hl.2, head_loc hd]
  by_cases hc : (oneR u).2.1 = 0 ∧ headIs (u.drop (oneR u).2.2) 45 = true
  · rw [if_pos hc] at h
    rw [if_pos hc, if_pos hc]
    have hlen : (oneR u).2.2 + 1 ≤ u.length := by
      have := hc.2
      simp [headIs] at this
      omega
    rw [drop_app hlen, one_loc h]
  · rw [if_neg hc, if_neg hc]
theorem text_loc (d : UInt8) (v : List UInt8) (hd : d ≠ 34) : ∀ (f : Nat) (u acc : List UInt8), u.length < f → (textF f u acc).1 = 0 → textF f (u ++ d :: v) acc = textF f u acc
  | 0, u, acc, h, _ => by omega
  | f + 1, u, acc, hl, h => by
    have hh : (decide (0 < (u ++ d :: v).length) && (u ++ d :: v).getD 0 0 == 34) = (decide (0 < u.length) && u.getD 0 0 == 34) := head_loc hd
    simp only [textF] at h ⊢
    rw [hh]
    by_cases hq : (decide (0 < u.length) && u.getD 0 0 == 34) = true
    · rw [if_pos hq, if_pos hq]
    · rw [if_neg hq] at h
      rw [if_neg hq, if_neg hq]
      by_cases hz : (oneR u).2.1 ≠ 0
      · rw [if_pos hz] at h; exact absurd h hz
      · rw [if_neg hz] at h
        have hz' : (oneR u).2.1 = 0 := by simpa using hz
        have ho := one_ok hz'
        rw [one_loc hz', if_neg hz, if_neg hz, drop_app ho.2, text_loc d v hd f (u.drop (oneR u).2.2) _ (by simp only [List.length_drop]; omega) h]
theorem parts_loc (d : UInt8) (v : List UInt8) (hd : d ≠ 93) (hd2 : d ≠ 45) : ∀ (f : Nat) (u : List UInt8) (s : W4), u.length < f → (partsF f u s).1 = 0 → partsF f (u ++ d :: v) s = partsF f u s
  | 0, u, acc, h, _ => by omega
  | f + 1, u, s, hl, h => by
    simp only [partsF] at h ⊢
    rw [head_loc hd]
    by_cases hq : headIs u 93 = true
    · rw [if_pos hq, if_pos hq]
    · rw [if_neg hq] at h
      rw [if_neg hq, if_neg hq]
      by_cases hz : (partR u).1 ≠ 0
      · rw [if_pos hz] at h; exact absurd h hz
      · rw [if_neg hz] at h
        have hz' : (partR u).1 = 0 := by simpa using hz
        have ho := part_ok hz'
        rw [part_loc hd2 hz', if_neg hz, if_neg hz]
        by_cases hy : (partR u).2.2.1.toNat < (partR u).2.1.toNat
        · rw [if_pos hy, if_pos hy]
        · rw [if_neg hy] at h
          rw [if_neg hy, if_neg hy, drop_app ho.2, parts_loc d v hd hd2 f (u.drop (partR u).2.2.2) _ (by simp only [List.length_drop]; omega) h]
theorem set_loc {d : UInt8} {u v : List UInt8} (hd : d ≠ 93) (hd2 : d ≠ 45) (hd3 : d ≠ 94) (h : (setR u).1 = 0) : setR (u ++ d :: v) = setR u := by
  unfold setR at h ⊢
  rw [head_loc hd3]
  by_cases hq : headIs u 94 = true
  · rw [if_pos hq] at h
    rw [if_pos hq, if_pos hq]
    have hu : 0 < u.length := by simp [headIs] at hq; exact hq.1
    have hl : (u.drop 1).length < u.length := by simp only [List.length_drop]; omega
    rw [drop_app hu, partsF_fuel (u ++ d :: v).length ((u ++ d :: v).length + u.length) (u.drop 1 ++ d :: v) zeroW (by simp; omega) (by simp; omega),
      parts_loc d v hd hd2 ((u ++ d :: v).length + u.length) (u.drop 1) zeroW (by omega) (by rw [partsF_fuel _ u.length _ _ (by omega) hl]; exact h),
      partsF_fuel _ u.length _ _ (by omega) hl]
  · rw [if_neg hq] at h
    rw [if_neg hq, if_neg hq]
    rw [parts_loc d v hd hd2 ((u ++ d :: v).length + 1) u zeroW (by simp; omega) (by rw [partsF_fuel _ (u.length + 1) _ _ (by simp; omega) (by omega)]; exact h),
      partsF_fuel _ (u.length + 1) _ _ (by simp; omega) (by omega)]
theorem tw_loc {p : UInt8 → Bool} {d : UInt8} (hd : p d = false) (u v : List UInt8) : (u ++ d :: v).takeWhile p = u.takeWhile p := by
  induction u with
  | nil => simp [hd]
  | cons c u ih => simp only [List.cons_append, List.takeWhile_cons, ih]
theorem arrow_loc (u v : List UInt8) (hu : u ≠ []) : arrowS.isPrefixOf (u ++ 10 :: v) = arrowS.isPrefixOf u := by
  match u, hu with
  | [c], _ => simp [arrowS, List.isPrefixOf]
  | c :: c' :: u, _ => simp [arrowS, List.isPrefixOf]
theorem token_loc {u v : List UInt8} (hu : u ≠ []) (h : (tokenR u).1 = 0) : tokenR (u ++ 10 :: v) = tokenR u := by
  have hl : 0 < u.length := List.length_pos_iff.2 hu
  have e0 : (u ++ 10 :: v).getD 0 0 = u.getD 0 0 := getD_app hl
  have ed : (u ++ 10 :: v).drop 1 = u.drop 1 ++ 10 :: v := drop_app hl
  unfold tokenR at h ⊢
  rw [e0, ed, tw_loc (p := (lettersS ++ digitsS).contains) (by decide), tw_loc (p := digitsS.contains) (by decide), arrow_loc u v hu]
  by_cases c1 : u.getD 0 0 = 34
  · rw [if_pos c1] at h
    rw [if_pos c1, if_pos c1]
    have h' : (textF ((u.drop 1).length + 1) (u.drop 1) []).1 = 0 := h
    have e : textR (u.drop 1 ++ 10 :: v) = textR (u.drop 1) := by
      unfold textR
      rw [text_loc 10 v (by decide) _ (u.drop 1) [] (by simp; omega) (by rw [textF_fuel _ ((u.drop 1).length + 1) _ _ (by simp; omega) (by omega)]; exact h'),
        textF_fuel _ ((u.drop 1).length + 1) _ _ (by simp; omega) (by omega)]
    rw [e]
  rw [if_neg c1] at h
  rw [if_neg c1, if_neg c1]
  by_cases c2 : u.getD 0 0 = 91
  · rw [if_pos c2] at h
    rw [if_pos c2, if_pos c2, set_loc (by decide) (by decide) (by decide) h]
  rw [if_neg c2, if_neg c2]
theorem skip_loc : ∀ (u v : List UInt8) (b : Bool), skipA b u < u.length → skipA b (u ++ v) = skipA b u
  | [], v, b, h => by simp at h
  | c :: u, v, b, h => by
    simp only [skipA, List.cons_append, List.length_cons] at h ⊢
    cases b
    · simp only at h ⊢
      by_cases c1 : whiteS.contains c = true
      · rw [if_pos c1] at h; rw [if_pos c1, if_pos c1, skip_loc u v false (by omega)]
      · rw [if_neg c1] at h; rw [if_neg c1, if_neg c1]
        by_cases c2 : c = 35
        · rw [if_pos c2] at h; rw [if_pos c2, if_pos c2, skip_loc u v true (by omega)]
        · rw [if_neg c2, if_neg c2]
    · simp only at h ⊢
      by_cases c1 : c = 10
      · rw [if_pos c1] at h; rw [if_pos c1, if_pos c1, skip_loc u v false (by omega)]
      · rw [if_neg c1] at h; rw [if_neg c1, if_neg c1, skip_loc u v true (by omega)]
theorem skip_end : ∀ (u v : List UInt8) (b : Bool), skipA b u = u.length → skipA b (u ++ 10 :: v) = u.length + 1 + skipA false v
  | [], v, b, h => by cases b <;> simp [skipA, whiteS]
  | c :: u, v, b, h => by
    simp only [skipA, List.cons_append, List.length_cons] at h ⊢
    cases b
    · simp only at h ⊢
      by_cases c1 : whiteS.contains c = true
      · rw [if_pos c1] at h; rw [if_pos c1, skip_end u v false (by omega)]; omega
      · rw [if_neg c1] at h; rw [if_neg c1]
        by_cases c2 : c = 35
        · rw [if_pos c2] at h; rw [if_pos c2, skip_end u v true (by omega)]; omega
        · rw [if_neg c2] at h; omega
    · simp only at h ⊢
      by_cases c1 : c = 10
      · rw [if_pos c1] at h; rw [if_pos c1, skip_end u v false (by omega)]; omega
      · rw [if_neg c1] at h; rw [if_neg c1, skip_end u v true (by omega)]; omega
/-- a token of the first text is one of both -/
theorem nextR_loc {s t : List UInt8} {i : Nat} (hi : i ≤ s.length) (h : (nextR s i).2.2.2 = 0) (hk : (nextR s i).1.kind ≠ 0) : nextR (s ++ 10 :: t) i = nextR s i := by
  have hsk : i + skipA false (s.drop i) ≤ s.length := by have := skip_le (s.drop i) false; rw [List.length_drop] at this; omega
  have key : i + skipA false (s.drop i) ≠ s.length ∧ (tokenR (s.drop (i + skipA false (s.drop i)))).1 = 0 := by
    unfold nextR at h hk
    by_cases h1 : i + skipA false (s.drop i) = s.length
    · rw [if_pos h1] at hk; exact absurd rfl hk
    · rw [if_neg h1] at h
      by_cases h2 : (tokenR (s.drop (i + skipA false (s.drop i)))).1 = 0
      · exact ⟨h1, h2⟩
      · rw [if_neg h2] at h; exact absurd h h2
  have e1 : skipA false ((s ++ 10 :: t).drop i) = skipA false (s.drop i) := by
    rw [drop_app hi, skip_loc _ _ _ (by rw [List.length_drop]; omega)]
  unfold nextR
  rw [e1, drop_app hsk, token_loc (fun e => by have := congrArg List.length e; simp at this; omega) key.2, if_neg (by rw [List.length_append]; simp; omega), if_neg key.1]
theorem nextR_end {s t : List UInt8} {i : Nat} (hi : i ≤ s.length) (h : (nextR s i).2.2.2 = 0) (hk : (nextR s i).1.kind = 0) : nextR (s ++ 10 :: t) i = nextR (s ++ 10 :: t) (s.length + 1) ∧ (nextR s i).2.2.1 = s.length := by
  have hsk : i + skipA false (s.drop i) ≤ s.length := by have := skip_le (s.drop i) false; rw [List.length_drop] at this; omega
  have key : i + skipA false (s.drop i) = s.length := by
    unfold nextR at h hk
    by_cases h1 : i + skipA false (s.drop i) = s.length
    · exact h1
    · rw [if_neg h1] at h hk
      by_cases h2 : (tokenR (s.drop (i + skipA false (s.drop i)))).1 = 0
      · rw [if_pos h2] at hk
        have := token_ok (u := s.drop (i + skipA false (s.drop i))) (fun e => by have := congrArg List.length e; simp at this; omega) h2
        exact absurd hk this.2.2
      · rw [if_neg h2] at h; exact absurd h h2
  refine ⟨nextR_congr ?_, ?_⟩
  · have hd : (s ++ 10 :: t).drop (s.length + 1) = t := by
      rw [show s ++ 10 :: t = (s ++ [10]) ++ t by simp, show s.length + 1 = (s ++ [10]).length by simp, List.drop_left]
    rw [drop_app hi, skip_end _ _ _ (by rw [List.length_drop]; omega), hd, List.length_drop]
    omega
  · unfold nextR
    rw [if_pos key]
theorem toks_join {s t : List UInt8} {i n n2 : Nat} {e e2 : Int} {L L2 : List (Tk × Int)} (h : Toks s i L n e) (h2 : Toks t 0 L2 n2 e2) (he : e = 0) : i ≤ s.length → Toks (s ++ 10 :: t) i (L ++ L2.map (shT (s.length + 1))) (s.length + 1 + n2) e2 := by
  induction h with
  | stop i h hk =>
    intro hi
    obtain ⟨e1, _⟩ := nextR_end (t := t) hi h hk
    refine Toks.congr e1.symm ?_
    have := h2.shift (s ++ [10])
    simpa using this
  | err i h => exact absurd he h
  | cons i L n e h hk ht ih =>
    intro hi
    have e1 := nextR_loc (t := t) hi h hk
    have := Toks.cons (s := s ++ 10 :: t) i (L ++ L2.map (shT (s.length + 1))) (s.length + 1 + n2) e2 (by rw [e1]; exact h) (by rw [e1]; exact hk) (by rw [e1]; exact ih he (next_ok hi h).1)
    rw [e1] at this
    exact this
end Go.Proofs
