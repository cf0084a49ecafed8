/-
  Walks and plain laws towards the statements of this seat (SetH). Conditions: those that each theorem names.
-/
import Derived.Test.YtclnfgmcpodeaaaDoorSet3
set_option linter.unusedVariables false
set_option linter.unusedSimpArgs false
namespace Go.Proofs
open Go Go.Fw
set_option maxHeartbeats 4000000
/- plain laws: which bytes a set has -/
theorem hasN_bit (s : W4) (n : Nat) : hasN s n = (wordN s (n / 64)).toNat.testBit (n % 64) := by
  unfold hasN
  rw [Nat.testBit_eq_decide_div_mod_eq]
  cases h : decide ((wordN s (n / 64)).toNat / 2 ^ (n % 64) % 2 = 1) <;> simp at h ⊢ <;> exact h
theorem u64_ext {x y : UInt64} (h : ∀ m, m < 64 → x.toNat.testBit m = y.toNat.testBit m) : x = y := by
  apply UInt64.toNat_inj.1
  apply Nat.eq_of_testBit_eq
  intro i
  by_cases hi : i < 64
  · exact h i hi
  · have e : ∀ z : UInt64, z.toNat.testBit i = false := fun z =>
      Nat.testBit_lt_two_pow (Nat.lt_of_lt_of_le z.toNat_lt (Nat.pow_le_pow_right (by decide) (by omega)))
    rw [e, e]
theorem w4_ext {s t : W4} (h : ∀ n, n < 256 → hasN s n = hasN t n) : s = t := by
  have key : ∀ i, i < 4 → wordN s i = wordN t i := by
    intro i hi
    apply u64_ext
    intro m hm
    have := h (64 * i + m) (by omega)
    rw [hasN_bit, hasN_bit] at this
    rw [show (64 * i + m) / 64 = i by omega, show (64 * i + m) % 64 = m by omega] at this
    exact this
  obtain ⟨a, b, c, d⟩ := s
  obtain ⟨a', b', c', d'⟩ := t
  have h0 := key 0 (by decide)
  have h1 := key 1 (by decide)
  have h2 := key 2 (by decide)
  have h3 := key 3 (by decide)
  simp [wordN] at h0 h1 h2 h3
  rw [h0, h1, h2, h3]
theorem has_any (s t : W4) (n : Nat) : hasN (anyW s t) n = (hasN s n || hasN t n) := by
  rw [hasN_bit, hasN_bit, hasN_bit]
  have : wordN (anyW s t) (n / 64) = wordN s (n / 64) ||| wordN t (n / 64) := by
    unfold wordN anyW
    simp only
    split
    · rfl
    · split
      · rfl
      · split <;> rfl
  rw [this, UInt64.toNat_or, Nat.testBit_or]
theorem has_zero (n : Nat) : hasN ⟨0, 0, 0, 0⟩ n = false := by
  rw [hasN_bit]
  have : wordN ⟨0, 0, 0, 0⟩ (n / 64) = 0 := by
    unfold wordN
    simp
  rw [this]
  simp
theorem bit_pow (m k : Nat) (hm : m < 64) : (bitW m).toNat.testBit k = decide (m = k) := by
  have : (bitW m).toNat = 2 ^ m := by
    unfold bitW
    rw [UInt64.toNat_ofNat', Nat.mod_eq_of_lt (Nat.pow_lt_pow_right (by decide) hm)]
  rw [this, Nat.testBit_two_pow]
theorem has_of (c : UInt8) (n : Nat) (hn : n < 256) : hasN (ofW c) n = decide (n = c.toNat) := by
  rw [hasN_bit]
  have hc := c.toNat_lt
  have hw : wordN (ofW c) (n / 64) = if c.toNat / 64 = n / 64 then bitW (c.toNat % 64) else 0 := by
    have h4 : n / 64 = 0 ∨ n / 64 = 1 ∨ n / 64 = 2 ∨ n / 64 = 3 := by omega
    rcases h4 with h | h | h | h <;> rw [h] <;> simp [wordN, ofW]
  rw [hw]
  by_cases h : c.toNat / 64 = n / 64
  · rw [if_pos h, bit_pow _ _ (Nat.mod_lt _ (by decide))]
    simp only [decide_eq_decide]
    omega
  · rw [if_neg h]
    have : n ≠ c.toNat := fun e => h (by rw [e])
    simp [this]
end Go.Proofs
