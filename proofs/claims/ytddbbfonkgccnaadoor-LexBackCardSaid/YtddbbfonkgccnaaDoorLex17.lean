/-
  Walks and plain laws towards the statements of this seat (Lex17). Conditions: those that each theorem names.
-/
import Derived.Test.YtddbbfonkgccnaaDoorLexSet
import Derived.Test.YtddbbfonkgccnaaDoorLex15
set_option linter.unusedVariables false
set_option linter.unusedSimpArgs false
namespace Go.Proofs
open Go Go.Fw
set_option maxHeartbeats 2000000
/- plain law: what is shown is read -/
theorem show_all : ∀ n : Fin 256, oneR (showL (UInt8.ofNat n.val)) = (UInt8.ofNat n.val, 0, (showL (UInt8.ofNat n.val)).length) ∧ 0 < (showL (UInt8.ofNat n.val)).length ∧
    (showL (UInt8.ofNat n.val)).getD 0 0 ≠ 34 ∧ (showL (UInt8.ofNat n.val)).getD 0 0 ≠ 93 ∧ (showL (UInt8.ofNat n.val)).getD 0 0 ≠ 45 ∧ (showL (UInt8.ofNat n.val)).getD 0 0 ≠ 94 := by decide +kernel
theorem show_at (c : UInt8) : oneR (showL c) = (c, 0, (showL c).length) ∧ 0 < (showL c).length ∧ (showL c).getD 0 0 ≠ 34 ∧ (showL c).getD 0 0 ≠ 93 ∧ (showL c).getD 0 0 ≠ 45 ∧ (showL c).getD 0 0 ≠ 94 := by
  have := show_all ⟨c.toNat, c.toNat_lt⟩
  simpa using this
theorem one_show (c : UInt8) (u : List UInt8) : oneR (showL c ++ u) = (c, 0, (showL c).length) := by
  have h := (show_at c).1
  rw [one_loc (by rw [h]), h]
theorem head_show (c d : UInt8) (u : List UInt8) (h : (showL c).getD 0 0 ≠ d) : headIs (showL c ++ u) d = false := by
  unfold headIs
  have hl := (show_at c).2.1
  rw [getD_app hl]
  simp only [List.length_append, Bool.and_eq_false_imp, beq_eq_false_iff_ne]
  exact fun _ => h
theorem text_read (rest : List UInt8) : ∀ (b : List UInt8) (f : Nat) (acc : List UInt8), (b.flatMap showL ++ 34 :: rest).length < f →
    textF f (b.flatMap showL ++ 34 :: rest) acc = if (acc ++ b).length > 256 then (2, [], (b.flatMap showL).length + 1) else (0, acc ++ b, (b.flatMap showL).length + 1)
  | [], f, acc, h => by
    cases f with
    | zero => omega
    | succ f => simp [textF]
  | c :: b, f, acc, h => by
    cases f with
    | zero => omega
    | succ f =>
      have hc := show_at c
      have hh : (decide (0 < (showL c ++ (b.flatMap showL ++ 34 :: rest)).length) && (showL c ++ (b.flatMap showL ++ 34 :: rest)).getD 0 0 == 34) = false := head_show c 34 _ hc.2.2.1
      simp only [List.flatMap_cons, List.append_assoc] at h ⊢
      simp only [textF]
      rw [hh, if_neg Bool.false_ne_true, one_show, if_neg (by simp)]
      simp only
      rw [List.drop_left, text_read rest b f (acc ++ [c]) (by simp only [List.length_append] at h ⊢; omega)]
      have e : acc ++ [c] ++ b = acc ++ c :: b := by simp
      rw [e]
      split <;> simp only [List.length_append] <;> refine Prod.ext rfl (Prod.ext rfl ?_) <;> simp only <;> omega
theorem part_row (p : Nat × Nat) (u : List UInt8) (hu : headIs u 45 = false) : partR (rowS p ++ u) = (0, UInt8.ofNat p.1, UInt8.ofNat p.2, (rowS p).length) := by
  unfold rowS
  by_cases h : p.1 = p.2
  · rw [if_pos h, List.append_nil]
    unfold partR
    rw [one_show]
    simp only [List.drop_left]
    rw [if_neg (by rw [hu]; simp), h]
  · rw [if_neg h]
    unfold partR
    rw [List.append_assoc, one_show]
    simp only [List.drop_left]
    rw [if_pos ⟨trivial, by simp [headIs]⟩]
    have e : (showL (UInt8.ofNat p.1) ++ ([45] ++ showL (UInt8.ofNat p.2) ++ u)).drop ((showL (UInt8.ofNat p.1)).length + 1) = showL (UInt8.ofNat p.2) ++ u := by
      rw [← List.drop_drop, List.drop_left]
      simp
    rw [e, one_show]
    refine Prod.ext rfl (Prod.ext rfl (Prod.ext rfl ?_))
    simp
    omega
theorem head_row (p : Nat × Nat) (d : UInt8) (u : List UInt8) (h : (showL (UInt8.ofNat p.1)).getD 0 0 ≠ d) : headIs (rowS p ++ u) d = false := by
  unfold rowS
  rw [List.append_assoc]
  exact head_show _ _ _ h
theorem row_pos (p : Nat × Nat) : 0 < (rowS p).length := by
  have := (show_at (UInt8.ofNat p.1)).2.1
  unfold rowS
  rw [List.length_append]
  omega
def foldRows (s : W4) (L : List (Nat × Nat)) : W4 := L.foldl (fun acc p => anyW acc (spanW (UInt8.ofNat p.1) (UInt8.ofNat p.2))) s
theorem head_rows (L : List (Nat × Nat)) (rest : List UInt8) (d : UInt8) (hd : d = 45 ∨ d = 94) : headIs (L.flatMap rowS ++ 93 :: rest) d = false := by
  cases L with
  | nil => rcases hd with rfl | rfl <;> simp [headIs]
  | cons p L =>
    rw [List.flatMap_cons, List.append_assoc]
    refine head_row p d _ ?_
    have := show_at (UInt8.ofNat p.1)
    rcases hd with rfl | rfl
    · exact this.2.2.2.2.1
    · exact this.2.2.2.2.2
theorem parts_read (rest : List UInt8) : ∀ (L : List (Nat × Nat)) (f : Nat) (s : W4), (∀ p ∈ L, p.1 ≤ p.2 ∧ p.2 < 256) → (L.flatMap rowS ++ 93 :: rest).length < f →
    partsF f (L.flatMap rowS ++ 93 :: rest) s = (0, foldRows s L, (L.flatMap rowS).length + 1)
  | [], f, s, _, h => by
    cases f with
    | zero => omega
    | succ f => simp [partsF, headIs, foldRows]
  | p :: L, f, s, hp, h => by
    cases f with
    | zero => omega
    | succ f =>
      have hh := head_row p 93 (L.flatMap rowS ++ 93 :: rest) (show_at (UInt8.ofNat p.1)).2.2.2.1
      have hpp := hp p (by simp)
      have hn : ¬ (UInt8.ofNat p.2).toNat < (UInt8.ofNat p.1).toNat := by simp; omega
      simp only [List.flatMap_cons, List.append_assoc] at h ⊢
      simp only [partsF]
      rw [hh, if_neg Bool.false_ne_true, part_row p _ (head_rows L rest 45 (.inl rfl)), if_neg (by simp)]
      simp only
      have hrp := row_pos p
      rw [if_neg hn, List.drop_left, parts_read rest L f _ (fun q hq => hp q (by simp [hq])) (by simp only [List.length_append] at h ⊢; omega)]
      refine Prod.ext rfl (Prod.ext rfl ?_)
      simp only [List.length_append]
      omega
end Go.Proofs
