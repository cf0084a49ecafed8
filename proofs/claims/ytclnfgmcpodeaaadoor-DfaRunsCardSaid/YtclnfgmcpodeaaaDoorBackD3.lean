/-
  Walks and plain laws towards the statements of this seat (BackD3). Conditions: those that each theorem names.
-/
import Derived.Test.YtclnfgmcpodeaaaDoorBackD2
set_option linter.unusedVariables false
set_option linter.unusedSimpArgs false
namespace Go.Proofs
open Go Go.Fw
set_option maxHeartbeats 4000000
/- plain law: both make the same edges -/
theorem sorted_eq : ∀ {l k : List Int}, l.Pairwise (· < ·) → k.Pairwise (· < ·) → (∀ x, x ∈ l ↔ x ∈ k) → l = k
  | [], [], _, _, _ => rfl
  | [], y :: k, _, _, h => by have := (h y).2 (by simp); cases this
  | x :: l, [], _, _, h => by have := (h x).1 (by simp); cases this
  | x :: l, y :: k, hl, hk, h => by
    rw [List.pairwise_cons] at hl hk
    have hxy : x = y := by
      have h1 := (h x).1 (by simp)
      have h2 := (h y).2 (by simp)
      rcases List.mem_cons.1 h1 with e | h1
      · exact e
      · rcases List.mem_cons.1 h2 with e | h2
        · exact e.symm
        · have := hl.1 y h2
          have := hk.1 x h1
          omega
    subst hxy
    congr 1
    refine sorted_eq hl.2 hk.2 fun z => ?_
    have hz := h z
    simp only [List.mem_cons] at hz
    constructor
    · intro hm
      rcases hz.1 (.inr hm) with e | e
      · have := hl.1 z hm; omega
      · exact e
    · intro hm
      rcases hz.2 (.inr hm) with e | e
      · have := hk.1 z hm; omega
      · exact e
theorem compact_up (zs : List Int) (hs : zs.Pairwise (· ≤ ·)) : ∀ m, m ≤ zs.length → (Lib.compactUpTo zs.toArray m).Pairwise (· < ·) ∧ (∀ x, x ∈ Lib.compactUpTo zs.toArray m ↔ x ∈ zs.take m) ∧ (∀ x ∈ Lib.compactUpTo zs.toArray m, x ≤ zs.getD (m - 1) 0)
  | 0, _ => by simp [Lib.compactUpTo]
  | m + 1, hm => by
    obtain ⟨h1, h2, h3⟩ := compact_up zs hs m (by omega)
    have hg : zs.toArray[m]! = zs.getD m 0 := by simp [List.getD, getElem!_pos, List.getElem?_eq_getElem (show m < zs.length by omega), show m < zs.length by omega]
    have hg1 : zs.toArray[m - 1]! = zs.getD (m - 1) 0 := by simp [List.getD, getElem!_pos, List.getElem?_eq_getElem (show m - 1 < zs.length by omega), show m - 1 < zs.length by omega]
    have htk := take_succ_e zs m 0 (by omega)
    have hle : 0 < m → zs.getD (m - 1) 0 ≤ zs.getD m 0 := fun h0 => by
      have := List.pairwise_iff_getElem.1 hs (m - 1) m (by omega) (by omega) (by omega)
      simpa [List.getD, List.getElem?_eq_getElem (show m < zs.length by omega), List.getElem?_eq_getElem (show m - 1 < zs.length by omega)] using this
    rw [Lib.compactUpTo_succ, hg, htk]
    have hme : m + 1 - 1 = m := by omega
    rw [hme]
    by_cases hk : Lib.keeps zs.toArray m = true
    · rw [if_pos hk]
      have hlt : ∀ x ∈ Lib.compactUpTo zs.toArray m, x < zs.getD m 0 := by
        intro x hx
        have hx3 := h3 x hx
        have hm0 : 0 < m := by
          rcases Nat.eq_zero_or_pos m with e | e
          · subst e; simp [Lib.compactUpTo] at hx
          · exact e
        have hne : zs.getD m 0 ≠ zs.getD (m - 1) 0 := by
          intro e
          have := Lib.keeps_neg (d := zs.toArray) hm0 (by rw [hg, hg1, e])
          rw [this] at hk; cases hk
        have := hle hm0
        omega
      refine ⟨?_, fun x => ?_, fun x hx => ?_⟩
      · rw [List.pairwise_append]
        exact ⟨h1, by simp, fun a ha b hb => by simp at hb; subst hb; exact hlt a ha⟩
      · simp only [List.mem_append, List.mem_singleton, h2]
      · simp only [List.mem_append, List.mem_singleton] at hx
        rcases hx with hx | rfl
        · exact Int.le_of_lt (hlt x hx)
        · exact Int.le_refl _
    · have hm0 : 0 < m := by
        rcases Nat.eq_zero_or_pos m with e | e
        · subst e; exact absurd (Lib.keeps_lt_one _ 0 (by decide)) hk
        · exact e
      have he : zs.getD m 0 = zs.getD (m - 1) 0 := by
        apply Classical.byContradiction
        intro hne
        exact hk (Lib.keeps_pos (by rw [hg, hg1]; exact hne))
      rw [if_neg hk, List.append_nil]
      refine ⟨h1, fun x => ?_, fun x hx => by rw [he]; exact h3 x hx⟩
      rw [h2]
      simp only [List.mem_append, List.mem_singleton]
      constructor
      · exact .inl
      · rintro (h | rfl)
        · exact h
        · rw [he]
          have : zs.getD (m - 1) 0 ∈ zs.take m := by
            rw [List.getD, List.getElem?_eq_getElem (show m - 1 < zs.length by omega)]
            exact List.mem_take_iff_getElem.2 ⟨m - 1, by omega, rfl⟩
          exact this
theorem srt_ok (l : List Int) : (srt l).Pairwise (· < ·) ∧ ∀ x, x ∈ srt l ↔ x ∈ l := by
  rw [← srt_eq]
  have hs : (l.mergeSort fun x y => decide (x ≤ y)).Pairwise (· ≤ ·) := by
    have := List.pairwise_mergeSort (le := fun x y : Int => decide (x ≤ y)) (by simp; omega) (by simp; omega) l
    exact this.imp fun h => by simpa using h
  obtain ⟨h1, h2, _⟩ := compact_up _ hs _ (Nat.le_refl _)
  refine ⟨h1, fun x => ?_⟩
  have := h2 x
  rw [List.take_length, List.mem_mergeSort] at this
  exact this
/-- each class has a byte -/
theorem setsF_inh : ∀ (r : List Int) (l : List Int) (b : Nat) (acc p : List W4), l.length = 256 → r = l.drop b → b ≤ 256 → (∀ k, k < acc.length → ∃ n, n < b ∧ l.getD n 0 = (k : Int)) → setsF r b acc = some p → ∀ k, k < p.length → ∃ n, n < 256 ∧ l.getD n 0 = (k : Int)
  | [], l, b, acc, p, hl, hr, hb, h, hp => by
    simp only [setsF, Option.some.injEq] at hp
    subst hp
    intro k hk
    obtain ⟨n, hn, e⟩ := h k hk
    exact ⟨n, by omega, e⟩
  | x :: r, l, b, acc, p, hl, hr, hb, h, hp => by
    have hb' : b < 256 := by
      have := congrArg List.length hr
      simp at this
      omega
    have hd := drop_getD_cons l b 0 (by omega)
    rw [hd] at hr
    injection hr with e1 e2
    rw [setsF] at hp
    split at hp
    · cases hp
    · rename_i hc
      refine setsF_inh r l (b + 1) _ p hl e2 (by omega) (fun k hk => ?_) hp
      rw [putK_len] at hk
      by_cases hka : k < acc.length
      · obtain ⟨n, hn, e⟩ := h k hka
        exact ⟨n, by omega, e⟩
      · split at hk
        · rename_i he
          have : k = acc.length := by simp at hk; omega
          exact ⟨b, by omega, by rw [← e1, he, this]⟩
        · omega
theorem setsR_inh {l : List Int} {p : List W4} (h : setsR l = some p) : ∀ k, k < p.length → ∃ n, n < 256 ∧ l.getD n 0 = (k : Int) := by
  unfold setsR at h
  split at h
  · rename_i hl
    exact setsF_inh l l 0 [] p hl rfl (by omega) (by simp) h
  · cases h
theorem has_setBk {d : Dfa} {p : List W4} (hp : setsR d.cls = some p) (row : List Int) (to : Int) : ∀ k, k ≤ p.length → ∀ n, n < 256 → hasN (setBk p row to k) n = (decide ((d.cls.getD n 0).toNat < k) && decide (row.getD (d.cls.getD n 0).toNat 0 = to))
  | 0, _, n, hn => by simp [setBk, zW, has_zero]
  | k + 1, hk, n, hn => by
    have ih := has_setBk hp row to k (by omega) n hn
    have hpt := (setsR_part hp).2 k (by omega) n hn
    have hin := (setsR_part hp).1 n hn
    have hck : d.cls.getD n 0 = ((d.cls.getD n 0).toNat : Int) := by omega
    generalize hc : (d.cls.getD n 0).toNat = c at ih hck ⊢
    rw [hck] at hpt
    rw [setBk]
    have hs : decide (c < k + 1) = (decide (c < k) || decide (c = k)) := by
      rw [← Bool.decide_or]; simp only [decide_eq_decide]; omega
    have hpt2 : hasN (p.getD k zW) n = decide (c = k) := by rw [hpt]; simp only [decide_eq_decide]; omega
    split
    · rename_i he
      rw [has_any, ih, hpt2, hs]
      by_cases hcc : c = k
      · subst hcc; rw [decide_eq_true he]; simp
      · simp [hcc]
    · rename_i he
      rw [ih, hs]
      by_cases hcc : c = k
      · subst hcc; rw [decide_eq_false he]; simp
      · simp [hcc]
theorem edgesR_eq (d : Dfa) (row : List Int) (s : Nat) : ∀ t, edgesR d row s t = ((List.range t).filter fun t => (List.range 256).any (gB d row t)).map fun (t : Nat) => (⟨s, t, makeN (gB d row t) 256⟩ : Edge)
  | 0 => rfl
  | t + 1 => by
    rw [edgesR, edgesR_eq d row s t, List.range_succ (n := t), List.filter_append, List.map_append]
    split
    · rename_i h
      rw [List.filter_cons, if_pos h]; rfl
    · rename_i h
      rw [List.filter_cons, if_neg h]; simp
theorem edges_same {d : Dfa} {p : List W4} (hp : setsR d.cls = some p) (hR : d.Right p.length) {s : Nat} (hs : s < d.next.length) : edgesR d (d.next.getD s []) s d.next.length = edgesB d p s := by
  have hrow := hR.rows s hs
  unfold edgesB
  rw [edgesR_eq]
  generalize d.next.getD s [] = row at hrow ⊢
  obtain ⟨s1, s2⟩ := srt_ok row
  have hS : srt row = ((List.range d.next.length).filter fun t => (List.range 256).any (gB d row t)).map fun (t : Nat) => (t : Int) := by
    refine sorted_eq s1 ?_ fun x => ?_
    · rw [List.pairwise_map]
      exact (List.pairwise_lt_range (n := d.next.length)).filter _ |>.imp fun h => by omega
    · rw [s2]
      simp only [List.mem_map, List.mem_filter, List.mem_range, List.any_eq_true, gB, beq_iff_eq]
      constructor
      · intro hx
        obtain ⟨k, hk, rfl⟩ := List.getElem_of_mem hx
        have hb := hrow.2 k (by omega)
        have hgk : row.getD k 0 = row[k] := by rw [List.getD, List.getElem?_eq_getElem hk]; rfl
        rw [hgk] at hb
        obtain ⟨n, hn, e⟩ := setsR_inh hp k (by omega)
        refine ⟨(row[k]).toNat, ⟨by omega, n, hn, ?_⟩, by omega⟩
        rw [e, Int.toNat_natCast, hgk]; omega
      · rintro ⟨t, ⟨_, n, hn, e⟩, rfl⟩
        have hb := hR.cls.2 n hn
        rw [← e]
        exact getD_memI (by omega)
  rw [hS, List.map_map]
  apply List.map_congr_left
  intro t ht
  simp only [Function.comp, edgeB]
  congr 1
  apply w4_ext
  intro n hn
  have hb := hR.cls.2 n hn
  rw [has_make _ 256 (Nat.le_refl _) n hn, has_setBk hp row t row.length (by omega) n hn, decide_eq_true hn, Bool.true_and, decide_eq_true (by omega), Bool.true_and]
  rfl
theorem back_same {d : Dfa} {p : List W4} (hp : setsR d.cls = some p) (hR : d.Right p.length) : ∀ s, s ≤ d.next.length → allR d s = allB d p s
  | 0, _ => rfl
  | s + 1, h => by rw [allR, allB_succ, back_same hp hR s (by omega), edges_same hp hR (by omega)]
end Go.Proofs
