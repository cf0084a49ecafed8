/-
  Walks and plain laws towards the statements of this seat (SetL). Conditions: those that each theorem names.
-/
import Derived.Test.YtddbbfonkgccnaaDoorLexSet
set_option linter.unusedVariables false
set_option linter.unusedSimpArgs false
namespace Go.Proofs
open Go Go.Fw
set_option maxHeartbeats 2000000
def foldRows (s : W4) (L : List (Nat × Nat)) : W4 := L.foldl (fun acc p => anyW acc (spanW (UInt8.ofNat p.1) (UInt8.ofNat p.2))) s
/- plain law: a set out of its rows -/
theorem hasN_bit (s : W4) (n : Nat) : hasN s n = (wordN s (n / 64)).toNat.testBit (n % 64) := by
  unfold hasN
  rw [Nat.testBit_eq_decide_div_mod_eq]
  cases h : decide ((wordN s (n / 64)).toNat / 2 ^ (n % 64) % 2 = 1) <;> simp at h ⊢ <;> exact h
theorem u64_ext {x y : UInt64} (h : ∀ m, m < 64 → x.toNat.testBit m = y.toNat.testBit m) : x = y := by
  apply UInt64.toNat_inj.1
  apply Nat.eq_of_testBit_eq
  intro i
  by_cases hi : i < 64
  · exact h i hi
  · have e : ∀ z : UInt64, z.toNat.testBit i = false := fun z =>
      Nat.testBit_lt_two_pow (Nat.lt_of_lt_of_le z.toNat_lt (Nat.pow_le_pow_right (by decide) (by omega)))
    rw [e, e]
theorem w4_ext {s t : W4} (h : ∀ n, n < 256 → hasN s n = hasN t n) : s = t := by
  have key : ∀ i, i < 4 → wordN s i = wordN t i := by
    intro i hi
    apply u64_ext
    intro m hm
    have := h (64 * i + m) (by omega)
    rw [hasN_bit, hasN_bit] at this
    rw [show (64 * i + m) / 64 = i by omega, show (64 * i + m) % 64 = m by omega] at this
    exact this
  obtain ⟨a, b, c, d⟩ := s
  obtain ⟨a', b', c', d'⟩ := t
  have h0 := key 0 (by decide)
  have h1 := key 1 (by decide)
  have h2 := key 2 (by decide)
  have h3 := key 3 (by decide)
  simp [wordN] at h0 h1 h2 h3
  rw [h0, h1, h2, h3]
theorem has_any (s t : W4) (n : Nat) : hasN (anyW s t) n = (hasN s n || hasN t n) := by
  rw [hasN_bit, hasN_bit, hasN_bit]
  have : wordN (anyW s t) (n / 64) = wordN s (n / 64) ||| wordN t (n / 64) := by
    unfold wordN anyW
    simp only
    split
    · rfl
    · split
      · rfl
      · split <;> rfl
  rw [this, UInt64.toNat_or, Nat.testBit_or]
theorem has_zero (n : Nat) : hasN ⟨0, 0, 0, 0⟩ n = false := by
  rw [hasN_bit]
  have : wordN ⟨0, 0, 0, 0⟩ (n / 64) = 0 := by
    unfold wordN
    simp
  rw [this]
  simp
theorem bit_pow (m k : Nat) (hm : m < 64) : (bitW m).toNat.testBit k = decide (m = k) := by
  have : (bitW m).toNat = 2 ^ m := by
    unfold bitW
    rw [UInt64.toNat_ofNat', Nat.mod_eq_of_lt (Nat.pow_lt_pow_right (by decide) hm)]
  rw [this, Nat.testBit_two_pow]
theorem has_of (c : UInt8) (n : Nat) (hn : n < 256) : hasN (ofW c) n = decide (n = c.toNat) := by
  rw [hasN_bit]
  have hc := c.toNat_lt
  have hw : wordN (ofW c) (n / 64) = if c.toNat / 64 = n / 64 then bitW (c.toNat % 64) else 0 := by
    have h4 : n / 64 = 0 ∨ n / 64 = 1 ∨ n / 64 = 2 ∨ n / 64 = 3 := by omega
    rcases h4 with h | h | h | h <;> rw [h] <;> simp [wordN, ofW]
  rw [hw]
  by_cases h : c.toNat / 64 = n / 64
  · rw [if_pos h, bit_pow _ _ (Nat.mod_lt _ (by decide))]
    simp only [decide_eq_decide]
    omega
  · rw [if_neg h]
    have : n ≠ c.toNat := fun e => h (by rw [e])
    simp [this]
theorem has_spanN (f : Nat) : ∀ (k n : Nat), f + k ≤ 256 → n < 256 → hasN (spanN f k) n = (decide (f ≤ n) && decide (n < f + k))
  | 0, n, _, _ => by
    rw [spanN, has_zero]
    cases h1 : decide (f ≤ n) <;> simp at h1 ⊢
    omega
  | k + 1, n, h, hn => by
    rw [spanN, has_any, has_spanN f k n (by omega) hn, has_of _ _ hn]
    have e : (UInt8.ofNat (f + k)).toNat = f + k := by simp; omega
    rw [e]
    by_cases h1 : f ≤ n
    · by_cases h2 : n < f + k
      · simp [h1, h2]; omega
      · by_cases h3 : n = f + k
        · simp [h3]
        · simp [h1, h2, h3]; omega
    · have h3 : n ≠ f + k := by omega
      simp [h1, h3]
theorem has_span (p : Nat × Nat) (h1 : p.1 ≤ p.2) (h2 : p.2 < 256) (n : Nat) (hn : n < 256) : hasN (spanW (UInt8.ofNat p.1) (UInt8.ofNat p.2)) n = (decide (p.1 ≤ n) && decide (n ≤ p.2)) := by
  unfold spanW
  have e1 : (UInt8.ofNat p.1).toNat = p.1 := by simp; omega
  have e2 : (UInt8.ofNat p.2).toNat = p.2 := by simp; omega
  rw [e1, e2, has_spanN p.1 _ n (by omega) hn]
  congr 1
  simp only [decide_eq_decide]
  omega
def inRow (n : Nat) (p : Nat × Nat) : Bool := decide (p.1 ≤ n) && decide (n ≤ p.2)
theorem has_fold : ∀ (L : List (Nat × Nat)) (s : W4) (n : Nat), (∀ p ∈ L, p.1 ≤ p.2 ∧ p.2 < 256) → n < 256 → hasN (foldRows s L) n = (hasN s n || L.any (inRow n))
  | [], s, n, _, _ => by simp [foldRows]
  | p :: L, s, n, h, hn => by
    have hp := h p (by simp)
    have : foldRows s (p :: L) = foldRows (anyW s (spanW (UInt8.ofNat p.1) (UInt8.ofNat p.2))) L := rfl
    rw [this, has_fold L _ n (fun q hq => h q (by simp [hq])) hn, has_any, has_span p hp.1 hp.2 n hn]
    simp [inRow, Bool.or_assoc]
theorem rows_le (s : W4) : ∀ j, ∀ p ∈ rowsN s j, p.1 ≤ p.2 := by
  intro j
  induction j with
  | zero => intro p hp; simp [rowsN] at hp
  | succ j ih =>
    intro p hp
    rw [rowsN_succ] at hp
    split at hp
    · unfold rowStep at hp
      split at hp
      · rename_i a b hl
        have hab := rowsN_bytes s j (a, b) (List.mem_of_getLast? hl)
        split at hp
        · rcases List.mem_append.1 hp with h | h
          · exact ih p (List.dropLast_subset _ h)
          · simp at h; subst h; simp at hab ⊢; omega
        · rcases List.mem_append.1 hp with h | h
          · exact ih p h
          · simp at h; subst h; simp
      · simp at hp; subst hp; simp
    · exact ih p hp
theorem rows_cover (s : W4) (n : Nat) : ∀ j, (rowsN s j).any (inRow n) = (decide (n < j) && hasN s n) := by
  intro j
  induction j with
  | zero => simp [rowsN]
  | succ j ih =>
    rw [rowsN_succ]
    have hle := rows_le s j
    have hlt := rowsN_bytes s j
    by_cases hj : hasN s j = true
    · rw [if_pos hj]
      have key : (rowStep (rowsN s j) j).any (inRow n) = ((rowsN s j).any (inRow n) || decide (n = j)) := by
        generalize rowsN s j = out at hle hlt
        rcases List.eq_nil_or_concat out with rfl | ⟨L, x, rfl⟩
        · simp [rowStep, inRow]
          by_cases h : n = j
          · simp [h]
          · simp [h]; omega
        · have hx := hle x (by simp)
          have hx2 := hlt x (by simp)
          have hrs : rowStep (L.concat x) j = if x.2 + 1 = j then L ++ [(x.1, j)] else L ++ [x] ++ [(j, j)] := by
            unfold rowStep
            simp
          rw [hrs]
          split
          · rename_i he
            simp only [List.concat_eq_append, List.any_append, List.any_cons, List.any_nil, Bool.or_false, Bool.or_assoc]
            congr 1
            unfold inRow
            simp only
            by_cases h1 : x.1 ≤ n
            · by_cases h2 : n ≤ x.2
              · simp [h1, h2]; omega
              · by_cases h3 : n = j
                · subst h3; simp; omega
                · simp [h1, h2, h3]; omega
            · have : n ≠ j := by omega
              simp [h1, this]
          · simp only [List.concat_eq_append, List.any_append, List.any_cons, List.any_nil, Bool.or_false, Bool.or_assoc]
            congr 2
            unfold inRow
            simp only
            by_cases h : n = j
            · simp [h]
            · simp [h]; omega
      rw [key, ih]
      by_cases h : n = j
      · subst h; simp [hj]
      · have : decide (n < j + 1) = decide (n < j) := by simp only [decide_eq_decide]; omega
        rw [this]; simp [h]
    · rw [if_neg hj, ih]
      by_cases h : n = j
      · subst h; simp at hj; simp [hj]
      · have : decide (n < j + 1) = decide (n < j) := by simp only [decide_eq_decide]; omega
        rw [this]
theorem not_not (s : W4) : notW (notW s) = s := by
  obtain ⟨a, b, c, d⟩ := s
  simp [notW]
end Go.Proofs
