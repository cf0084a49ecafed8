/-
  Walks and plain laws towards the statements of this seat (Pop). Conditions: those that each theorem names.
-/
set_option linter.unusedVariables false
set_option linter.unusedSimpArgs false
namespace Go.Proofs
/- plain law: how many bits, byte by byte -/
def valE (f : Nat → Nat) (n : Nat) : Nat → Nat
  | 0 => 0
  | k + 1 => f (n % 256) + 256 * valE f (n / 256) k
def sumE (f : Nat → Nat) (n : Nat) : Nat → Nat
  | 0 => 0
  | k + 1 => f (n % 256) + sumE f (n / 256) k
def maskE (c : Nat) : Nat → Nat
  | 0 => 0
  | k + 1 => c + 256 * maskE c k
def popB (b : Nat) : Nat := (List.range 8).countP b.testBit
def g1 (b : Nat) : Nat := (b / 2 &&& 85) + (b &&& 85)
def g2 (b : Nat) : Nat := (b / 4 &&& 51) + (b &&& 51)
theorem and_byte (a x c m : Nat) (ha : a < 256) (hc : c < 256) : (a + 256 * x) &&& (c + 256 * m) = (a &&& c) + 256 * (x &&& m) := by
  have h1 := Nat.and_mod_two_pow (a := a + 256 * x) (b := c + 256 * m) (n := 8)
  have h2 := Nat.and_div_two_pow (a := a + 256 * x) (b := c + 256 * m) (n := 8)
  rw [show (a + 256 * x) % 2 ^ 8 = a by omega, show (c + 256 * m) % 2 ^ 8 = c by omega] at h1
  rw [show (a + 256 * x) / 2 ^ 8 = x by omega, show (c + 256 * m) / 2 ^ 8 = m by omega] at h2
  have h3 := Nat.mod_add_div ((a + 256 * x) &&& (c + 256 * m)) (2 ^ 8)
  rw [h1, h2] at h3
  omega
theorem half_byte : ∀ b : Fin 256, ∀ c : Fin 2, (b.val / 2 + 128 * c.val) &&& 85 = b.val / 2 &&& 85 := by decide +kernel
theorem quart_byte : ∀ b : Fin 256, ∀ c : Fin 4, (b.val / 4 + 64 * c.val) &&& 51 = b.val / 4 &&& 51 := by decide +kernel
theorem nib_byte : ∀ a : Fin 5, ∀ b : Fin 5, ∀ c : Fin 5, (b.val + 16 * c.val + (a.val + 16 * b.val)) &&& 15 = a.val + b.val := by decide +kernel
theorem pop_byte : ∀ b : Fin 256, g2 (g1 b.val) % 16 ≤ 4 ∧ g2 (g1 b.val) / 16 ≤ 4 ∧ g2 (g1 b.val) % 16 + g2 (g1 b.val) / 16 = popB b.val ∧ g1 b.val < 256 ∧ popB b.val ≤ 8 := by decide +kernel
theorem step1 (k : Nat) : ∀ n, (n / 2 &&& maskE 85 k) + (n &&& maskE 85 k) = valE g1 n k := by
  induction k with
  | zero => intro n; simp [maskE, valE]
  | succ k ih =>
    intro n
    have e1 : n = n % 256 + 256 * (n / 256) := by omega
    have e2 : n / 2 = (n % 256 / 2 + 128 * (n / 256 % 2)) + 256 * (n / 256 / 2) := by omega
    have h1 : n / 2 &&& maskE 85 (k + 1) = (n % 256 / 2 &&& 85) + 256 * (n / 256 / 2 &&& maskE 85 k) := by
      rw [e2, maskE, and_byte _ _ _ _ (by omega) (by decide), half_byte ⟨n % 256, Nat.mod_lt _ (by decide)⟩ ⟨n / 256 % 2, Nat.mod_lt _ (by decide)⟩]
    have h2 : n &&& maskE 85 (k + 1) = (n % 256 &&& 85) + 256 * (n / 256 &&& maskE 85 k) := by
      conv => lhs; rw [e1]
      rw [maskE, and_byte _ _ _ _ (Nat.mod_lt _ (by decide)) (by decide)]
    rw [h1, h2, valE, ← ih (n / 256), g1]
    omega
theorem step2 (k : Nat) (f : Nat → Nat) (hf : ∀ b, b < 256 → f b < 256) : ∀ n, (valE f n k / 4 &&& maskE 51 k) + (valE f n k &&& maskE 51 k) = valE (fun b => g2 (f b)) n k := by
  induction k with
  | zero => intro n; simp [maskE, valE]
  | succ k ih =>
    intro n
    have hb := hf (n % 256) (Nat.mod_lt _ (by decide))
    have ih := ih (n / 256)
    simp only [valE]
    generalize f (n % 256) = b at hb ⊢
    generalize valE f (n / 256) k = x at ih ⊢
    have e2 : (b + 256 * x) / 4 = (b / 4 + 64 * (x % 4)) + 256 * (x / 4) := by omega
    have h1 : (b + 256 * x) / 4 &&& maskE 51 (k + 1) = (b / 4 &&& 51) + 256 * (x / 4 &&& maskE 51 k) := by
      rw [e2, maskE, and_byte _ _ _ _ (by omega) (by decide), quart_byte ⟨b, hb⟩ ⟨x % 4, Nat.mod_lt _ (by decide)⟩]
    have h2 : (b + 256 * x) &&& maskE 51 (k + 1) = (b &&& 51) + 256 * (x &&& maskE 51 k) := by
      rw [maskE, and_byte _ _ _ _ hb (by decide)]
    rw [h1, h2, ← ih, g2]
    omega
theorem step3 (k : Nat) (f : Nat → Nat) (hf : ∀ b, b < 256 → f b % 16 ≤ 4 ∧ f b / 16 ≤ 4) : ∀ n, (valE f n k / 16 + valE f n k) &&& maskE 15 k = valE (fun b => f b % 16 + f b / 16) n k := by
  induction k with
  | zero => intro n; simp [maskE, valE]
  | succ k ih =>
    intro n
    have hx : valE f (n / 256) k % 16 ≤ 4 := by
      cases k with
      | zero => simp [valE]
      | succ k =>
        have := (hf (n / 256 % 256) (Nat.mod_lt _ (by decide))).1
        simp only [valE]
        omega
    have hb := hf (n % 256) (Nat.mod_lt _ (by decide))
    have ih := ih (n / 256)
    simp only [valE]
    generalize f (n % 256) = b at hb ⊢
    generalize valE f (n / 256) k = x at ih hx ⊢
    have e2 : (b + 256 * x) / 16 + (b + 256 * x) = (b / 16 + 16 * (x % 16) + (b % 16 + 16 * (b / 16))) + 256 * (x / 16 + x) := by omega
    rw [e2, maskE, and_byte _ _ _ _ (by omega) (by decide), ih]
    have := nib_byte ⟨b % 16, by omega⟩ ⟨b / 16, by omega⟩ ⟨x % 16, by omega⟩
    simp only at this
    rw [this]
theorem valE_lt (f : Nat → Nat) (hf : ∀ b, b < 256 → f b < 256) (k : Nat) : ∀ n, valE f n k < 256 ^ k := by
  induction k with
  | zero => intro n; simp [valE]
  | succ k ih =>
    intro n
    have := ih (n / 256)
    have hb := hf (n % 256) (Nat.mod_lt _ (by decide))
    rw [valE, Nat.pow_succ]
    omega
theorem valE_congr (f g : Nat → Nat) (h : ∀ b, b < 256 → f b = g b) (k : Nat) : ∀ n, valE f n k = valE g n k := by
  induction k with
  | zero => intro n; rfl
  | succ k ih => intro n; rw [valE, valE, ih, h _ (Nat.mod_lt _ (by decide))]
def popN (n : Nat) : Nat :=
  let a1 := ((n / 2 &&& 6148914691236517205) + (n &&& 6148914691236517205)) % 18446744073709551616
  let a2 := ((a1 / 4 &&& 3689348814741910323) + (a1 &&& 3689348814741910323)) % 18446744073709551616
  let a3 := ((a2 / 16 + a2) % 18446744073709551616) &&& 1085102592571150095
  let a4 := (a3 + a3 / 256) % 18446744073709551616
  let a5 := (a4 + a4 / 65536) % 18446744073709551616
  let a6 := (a5 + a5 / 4294967296) % 18446744073709551616
  a6 % 128
theorem fold_sum (p0 p1 p2 p3 p4 p5 p6 p7 : Nat) (h0 : p0 ≤ 8) (h1 : p1 ≤ 8) (h2 : p2 ≤ 8) (h3 : p3 ≤ 8) (h4 : p4 ≤ 8) (h5 : p5 ≤ 8) (h6 : p6 ≤ 8) (h7 : p7 ≤ 8) (a3 a4 a5 a6 : Nat)
    (e3 : a3 = p0 + 256 * (p1 + 256 * (p2 + 256 * (p3 + 256 * (p4 + 256 * (p5 + 256 * (p6 + 256 * (p7 + 256 * 0))))))))
    (e4 : a4 = (a3 + a3 / 256) % 18446744073709551616) (e5 : a5 = (a4 + a4 / 65536) % 18446744073709551616) (e6 : a6 = (a5 + a5 / 4294967296) % 18446744073709551616) :
    a6 % 128 = p0 + (p1 + (p2 + (p3 + (p4 + (p5 + (p6 + (p7 + 0))))))) := by
  have d4 : a4 = (p0 + p1) + 256 * ((p1 + p2) + 256 * ((p2 + p3) + 256 * ((p3 + p4) + 256 * ((p4 + p5) + 256 * ((p5 + p6) + 256 * ((p6 + p7) + 256 * p7)))))) := by omega
  clear e3 e4
  have q4 : a4 / 65536 = (p2 + p3) + 256 * ((p3 + p4) + 256 * ((p4 + p5) + 256 * ((p5 + p6) + 256 * ((p6 + p7) + 256 * p7)))) := by
    generalize (p2 + p3) + 256 * ((p3 + p4) + 256 * ((p4 + p5) + 256 * ((p5 + p6) + 256 * ((p6 + p7) + 256 * p7)))) = X at d4
    omega
  rw [q4, d4] at e5
  have d5 : a5 = (p0 + p1 + p2 + p3) + 256 * ((p1 + p2 + p3 + p4) + 256 * ((p2 + p3 + p4 + p5) + 256 * ((p3 + p4 + p5 + p6) + 256 * ((p4 + p5 + p6 + p7) + 256 * ((p5 + p6 + p7) + 256 * ((p6 + p7) + 256 * p7)))))) := by
    rw [e5, Nat.mod_eq_of_lt (by omega)]
    omega
  clear e5 q4 d4
  have q5 : a5 / 4294967296 = (p4 + p5 + p6 + p7) + 256 * ((p5 + p6 + p7) + 256 * ((p6 + p7) + 256 * p7)) := by
    generalize (p4 + p5 + p6 + p7) + 256 * ((p5 + p6 + p7) + 256 * ((p6 + p7) + 256 * p7)) = X at d5
    omega
  rw [q5, d5] at e6
  clear d5 q5
  rw [Nat.mod_eq_of_lt (by omega)] at e6
  omega
theorem pop_sum (n : Nat) : popN n = sumE popB n 8 := by
  have hm1 : (6148914691236517205 : Nat) = maskE 85 8 := rfl
  have hm2 : (3689348814741910323 : Nat) = maskE 51 8 := rfl
  have hm3 : (1085102592571150095 : Nat) = maskE 15 8 := rfl
  have hg1 : ∀ b, b < 256 → g1 b < 256 := fun b hb => (pop_byte ⟨b, hb⟩).2.2.2.1
  have hg2 : ∀ b, b < 256 → g2 (g1 b) % 16 ≤ 4 ∧ g2 (g1 b) / 16 ≤ 4 := fun b hb => ⟨(pop_byte ⟨b, hb⟩).1, (pop_byte ⟨b, hb⟩).2.1⟩
  have hg3 : ∀ b, b < 256 → g2 (g1 b) < 256 := fun b hb => by have := hg2 b hb; omega
  have l1 := valE_lt g1 hg1 8 n
  have l2 := valE_lt (fun b => g2 (g1 b)) hg3 8 n
  have e256 : (256 : Nat) ^ 8 = 18446744073709551616 := by decide
  rw [e256] at l1 l2
  have l3 : valE (fun b => g2 (g1 b)) n 8 / 16 + valE (fun b => g2 (g1 b)) n 8 < 18446744073709551616 := by
    have : ∀ k m, 255 * valE (fun b => g2 (g1 b)) m k + 68 ≤ 68 * 256 ^ k := by
      intro k
      induction k with
      | zero => intro m; simp [valE]
      | succ k ih =>
        intro m
        have h := hg2 (m % 256) (Nat.mod_lt _ (by decide))
        have h2 := ih (m / 256)
        rw [valE, Nat.pow_succ]
        omega
    have := this 8 n
    rw [e256] at this
    omega
  unfold popN
  simp only
  rw [hm1, step1 8 n, Nat.mod_eq_of_lt l1, hm2, step2 8 g1 hg1 n, Nat.mod_eq_of_lt l2, Nat.mod_eq_of_lt l3, hm3, step3 8 _ hg2 n]
  rw [valE_congr _ popB (fun b hb => (pop_byte ⟨b, hb⟩).2.2.1) 8 n]
  have hp : ∀ m, popB (m % 256) ≤ 8 := fun m => (pop_byte ⟨m % 256, Nat.mod_lt _ (by decide)⟩).2.2.2.2
  simp only [sumE]
  exact fold_sum _ _ _ _ _ _ _ _ (hp _) (hp _) (hp _) (hp _) (hp _) (hp _) (hp _) (hp _) _ _ _ _ rfl rfl rfl rfl
theorem count_word (k : Nat) : ∀ n : Nat, (List.range (8 * k)).countP n.testBit = sumE popB n k := by
  induction k with
  | zero => intro n; rfl
  | succ k ih =>
    intro n
    rw [show 8 * (k + 1) = 8 + 8 * k by omega, List.range_add, List.countP_append, List.countP_map, sumE, ← ih (n / 256)]
    congr 1
    · unfold popB
      apply List.countP_congr
      intro i hi
      rw [List.mem_range] at hi
      rw [show n % 256 = n % 2 ^ 8 from rfl, Nat.testBit_mod_two_pow]
      simp [hi]
    · apply List.countP_congr
      intro i hi
      simp only [Function.comp]
      rw [show n / 256 = n / 2 ^ 8 from rfl, Nat.testBit_div_two_pow, Nat.add_comm]
end Go.Proofs
