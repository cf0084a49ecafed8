/-
  Walks and plain laws towards the statements of this seat (Lex13). Conditions: those that each theorem names.
-/
import Derived.Test.YtddbbfonkgccnaaDoorLex12
set_option linter.unusedVariables false
set_option linter.unusedSimpArgs false
namespace Go.Proofs
open Go Go.Fw
/- plain law: places shift -/
inductive Toks (s : List UInt8) : Nat → List (Tk × Int) → Nat → Int → Prop
  | stop (i : Nat) (h : (nextR s i).2.2.2 = 0) (hk : (nextR s i).1.kind = 0) : Toks s i [] (nextR s i).2.2.1 0
  | err (i : Nat) (h : (nextR s i).2.2.2 ≠ 0) : Toks s i [] (nextR s i).2.2.1 (nextR s i).2.2.2
  | cons (i : Nat) (L : List (Tk × Int)) (n : Nat) (e : Int) (h : (nextR s i).2.2.2 = 0) (hk : (nextR s i).1.kind ≠ 0) (ht : Toks s (nextR s i).2.2.1 L n e) : Toks s i (((nextR s i).1, (nextR s i).2.1) :: L) n e
theorem toks_ex (s : List UInt8) : ∀ (k i : Nat), i ≤ s.length → s.length - i < k → ∃ L n e, Toks s i L n e
  | 0, i, _, h => by omega
  | k + 1, i, hi, hk => by
    by_cases h : (nextR s i).2.2.2 = 0
    · by_cases h2 : (nextR s i).1.kind = 0
      · exact ⟨_, _, _, .stop i h h2⟩
      · obtain ⟨n1, n2⟩ := next_ok hi h
        have n3 := n2 h2
        obtain ⟨L, n, e, ht⟩ := toks_ex s k _ n1 (by omega)
        exact ⟨_, _, _, .cons i L n e h h2 ht⟩
    · exact ⟨_, _, _, .err i h⟩
theorem allF_toks {s : List UInt8} {i n : Nat} {e : Int} {L : List (Tk × Int)} (h : Toks s i L n e) : ∀ (k : Nat) (acc : List (Tk × Int)), i ≤ s.length → s.length - i < k → allF s k i acc = if e = 0 then (acc ++ L, n, e) else ([], n, e) := by
  induction h with
  | stop i h hk =>
    intro k acc hi hk'
    cases k with
    | zero => omega
    | succ k => simp only [allF]; rw [if_neg (by simpa using h), if_pos hk]; simp
  | err i h =>
    intro k acc hi hk'
    cases k with
    | zero => omega
    | succ k => simp only [allF]; rw [if_pos h, if_neg h]
  | cons i L n e h hk ht ih =>
    intro k acc hi hk'
    cases k with
    | zero => omega
    | succ k =>
      obtain ⟨n1, n2⟩ := next_ok hi h
      have n3 := n2 hk
      simp only [allF]
      rw [if_neg (by simpa using h), if_neg hk, ih k _ n1 (by omega)]
      simp
theorem allR_toks {s : List UInt8} {n : Nat} {e : Int} {L : List (Tk × Int)} (hs : s.length ≤ 65536) (h : Toks s 0 L n e) : allR s = if e = 0 then (L, n, e) else ([], n, e) := by
  unfold allR
  rw [if_neg (by omega), allF_toks h _ [] (Nat.zero_le _) (by omega)]
  simp
theorem Toks.congr {s : List UInt8} {i j n : Nat} {e : Int} {L : List (Tk × Int)} (hij : nextR s i = nextR s j) (h : Toks s i L n e) : Toks s j L n e := by
  cases h with
  | stop _ h hk => rw [hij] at h hk ⊢; exact .stop j h hk
  | err _ h => rw [hij] at h ⊢; exact .err j h
  | cons _ L _ _ h hk ht => rw [hij] at h hk ht ⊢; exact .cons j _ _ _ h hk ht
/-- what is read at a place hangs on where white ends alone -/
theorem nextR_congr {s : List UInt8} {i j : Nat} (h : i + skipA false (s.drop i) = j + skipA false (s.drop j)) : nextR s i = nextR s j := by
  unfold nextR
  rw [h]
def shT (k : Nat) (x : Tk × Int) : Tk × Int := (x.1, x.2 + k)
theorem nextR_shift (p s : List UInt8) (i : Nat) : (nextR (p ++ s) (p.length + i)).1 = (nextR s i).1 ∧ (nextR (p ++ s) (p.length + i)).2.2.1 = p.length + (nextR s i).2.2.1 ∧ (nextR (p ++ s) (p.length + i)).2.2.2 = (nextR s i).2.2.2 ∧
    ((nextR s i).2.2.2 = 0 → (nextR (p ++ s) (p.length + i)).2.1 = (nextR s i).2.1 + p.length) := by
  have hd : ∀ j, (p ++ s).drop (p.length + j) = s.drop j := fun j => by rw [List.drop_append, List.drop_of_length_le (by omega), List.nil_append]; congr 1; omega
  have hf : p.length + i + skipA false ((p ++ s).drop (p.length + i)) = p.length + (i + skipA false (s.drop i)) := by rw [hd]; omega
  unfold nextR
  rw [hf, hd, List.length_append]
  by_cases h1 : i + skipA false (s.drop i) = s.length
  · rw [if_pos h1, if_pos (by omega)]
    exact ⟨rfl, rfl, rfl, fun _ => by simp only; omega⟩
  · rw [if_neg h1, if_neg (by omega)]
    by_cases h2 : (tokenR (s.drop (i + skipA false (s.drop i)))).1 = 0
    · rw [if_pos h2, if_pos h2]
      exact ⟨rfl, by simp only; omega, rfl, fun _ => by simp only; omega⟩
    · rw [if_neg h2, if_neg h2]
      exact ⟨rfl, rfl, rfl, fun h => absurd h h2⟩
theorem Toks.shift (p : List UInt8) {s : List UInt8} {i n : Nat} {e : Int} {L : List (Tk × Int)} (h : Toks s i L n e) : Toks (p ++ s) (p.length + i) (L.map (shT p.length)) (p.length + n) e := by
  induction h with
  | stop i h hk =>
    obtain ⟨a, b, c, d⟩ := nextR_shift p s i
    have := Toks.stop (s := p ++ s) (p.length + i) (by rw [c]; exact h) (by rw [a]; exact hk)
    rw [b] at this
    exact this
  | err i h =>
    obtain ⟨a, b, c, d⟩ := nextR_shift p s i
    have := Toks.err (s := p ++ s) (p.length + i) (by rw [c]; exact h)
    rw [b, c] at this
    exact this
  | cons i L n e h hk ht ih =>
    obtain ⟨a, b, c, d⟩ := nextR_shift p s i
    have := Toks.cons (s := p ++ s) (p.length + i) (L.map (shT p.length)) (p.length + n) e (by rw [c]; exact h) (by rw [a]; exact hk) (by rw [b]; exact ih)
    rw [a, d h] at this
    exact this
/- white ahead -/
def lineS : List UInt8 := [35, 32, 34, 91, 10]
def blankS : List UInt8 := [32, 9, 13]
def frontS (l b : Nat) : List UInt8 := (List.replicate l lineS).flatten ++ (List.replicate b blankS).flatten
theorem skip_blank (b : Nat) (u : List UInt8) : skipA false ((List.replicate b blankS).flatten ++ u) = (List.replicate b blankS).flatten.length + skipA false u := by
  induction b with
  | zero => simp
  | succ b ih =>
    rw [List.replicate_succ, List.flatten_cons]
    generalize (List.replicate b blankS).flatten = x at ih ⊢
    simp [blankS, skipA, whiteS, ih]
    omega
theorem skip_lines (l : Nat) (u : List UInt8) : skipA false ((List.replicate l lineS).flatten ++ u) = (List.replicate l lineS).flatten.length + skipA false u := by
  induction l with
  | zero => simp
  | succ b ih =>
    rw [List.replicate_succ, List.flatten_cons]
    generalize (List.replicate b lineS).flatten = x at ih ⊢
    simp [lineS, skipA, whiteS, ih]
    omega
theorem skip_front (l b : Nat) (u : List UInt8) : skipA false (frontS l b ++ u) = (frontS l b).length + skipA false u := by
  unfold frontS
  rw [List.append_assoc, skip_lines, skip_blank, List.length_append]
  omega
theorem toks_front (l b : Nat) {s : List UInt8} {n : Nat} {e : Int} {L : List (Tk × Int)} (h : Toks s 0 L n e) : Toks (frontS l b ++ s) 0 (L.map (shT (frontS l b).length)) ((frontS l b).length + n) e := by
  refine Toks.congr ?_ (h.shift (frontS l b))
  refine nextR_congr ?_
  have hd : (frontS l b ++ s).drop ((frontS l b).length + 0) = s := by rw [Nat.add_zero, List.drop_left]
  rw [hd, List.drop_zero, skip_front]
  omega
/- places -/
theorem skip_idem : ∀ (u : List UInt8) (b : Bool), skipA false (u.drop (skipA b u)) = 0
  | [], b => by simp [skipA]
  | c :: u, false => by
    simp only [skipA]
    split
    · rw [Nat.add_comm, List.drop_succ_cons]; exact skip_idem u false
    · split
      · rw [Nat.add_comm, List.drop_succ_cons]; exact skip_idem u true
      · rename_i h1 h2
        simp only [List.drop_zero, skipA]
        rw [if_neg h1, if_neg h2]
  | c :: u, true => by
    simp only [skipA]
    split
    · rw [Nat.add_comm, List.drop_succ_cons]; exact skip_idem u false
    · rw [Nat.add_comm, List.drop_succ_cons]; exact skip_idem u true
/-- a token stands at its place, and the next one not ahead of the place behind it -/
theorem nextR_at {s : List UInt8} {i : Nat} (hi : i ≤ s.length) (h : (nextR s i).2.2.2 = 0) (hk : (nextR s i).1.kind ≠ 0) : ∃ f : Nat, (nextR s i).2.1 = f ∧ i ≤ f ∧ f < s.length ∧ nextR s f = nextR s i ∧ f < (nextR s i).2.2.1 := by
  have hsk : i + skipA false (s.drop i) ≤ s.length := by have := skip_le (s.drop i) false; rw [List.length_drop] at this; omega
  have hidem : skipA false (s.drop (i + skipA false (s.drop i))) = 0 := by
    have := skip_idem (s.drop i) false
    rwa [List.drop_drop] at this
  have key : i + skipA false (s.drop i) ≠ s.length ∧ (tokenR (s.drop (i + skipA false (s.drop i)))).1 = 0 := by
    unfold nextR at h hk
    by_cases h1 : i + skipA false (s.drop i) = s.length
    · rw [if_pos h1] at hk; exact absurd rfl hk
    · rw [if_neg h1] at h
      by_cases h2 : (tokenR (s.drop (i + skipA false (s.drop i)))).1 = 0
      · exact ⟨h1, h2⟩
      · rw [if_neg h2] at h; exact absurd h h2
  have tok := token_ok (u := s.drop (i + skipA false (s.drop i))) (fun e => by have := congrArg List.length e; simp at this; omega) key.2
  have e : nextR s i = ((tokenR (s.drop (i + skipA false (s.drop i)))).2.1, ((i + skipA false (s.drop i) : Nat) : Int), i + skipA false (s.drop i) + (tokenR (s.drop (i + skipA false (s.drop i)))).2.2, 0) := by
    conv => lhs; unfold nextR
    rw [if_neg key.1, if_pos key.2]
  refine ⟨i + skipA false (s.drop i), by rw [e], by omega, by omega, nextR_congr (by rw [hidem]; omega), ?_⟩
  rw [e]
  simp only
  omega
theorem nextR_le {s : List UInt8} {i : Nat} (hi : i ≤ s.length) : (nextR s i).2.2.1 ≤ s.length := by
  by_cases h : (nextR s i).2.2.2 = 0
  · exact (next_ok hi h).1
  · have hk : i + skipA false (s.drop i) ≤ s.length := by have := skip_le (s.drop i) false; rw [List.length_drop] at this; omega
    unfold nextR at h ⊢
    by_cases h1 : i + skipA false (s.drop i) = s.length
    · rw [if_pos h1]; exact Nat.le_refl _
    · rw [if_neg h1] at h ⊢
      by_cases h2 : (tokenR (s.drop (i + skipA false (s.drop i)))).1 = 0
      · rw [if_pos h2] at h; exact absurd rfl h
      · rw [if_neg h2]; exact hk
theorem toks_le {s : List UInt8} {i n : Nat} {e : Int} {L : List (Tk × Int)} (h : Toks s i L n e) : i ≤ s.length → n ≤ s.length ∧ L.length ≤ s.length - i := by
  induction h with
  | stop i h hk => exact fun hi => ⟨nextR_le hi, Nat.zero_le _⟩
  | err i h => exact fun hi => ⟨nextR_le hi, Nat.zero_le _⟩
  | cons i L n e h hk ht ih =>
    intro hi
    obtain ⟨n1, n2⟩ := next_ok hi h
    have n3 := n2 hk
    obtain ⟨a, b⟩ := ih n1
    exact ⟨a, by simp only [List.length_cons]; omega⟩
theorem toks_ge {s : List UInt8} {i n : Nat} {e : Int} {L : List (Tk × Int)} (h : Toks s i L n e) (hi : i ≤ s.length) (hL : 0 < L.length) : (i : Int) ≤ (L.getD 0 tokZ).2 := by
  cases h with
  | stop _ h hk => simp at hL
  | err _ h => simp at hL
  | cons _ L _ _ h hk ht =>
    obtain ⟨f, h1, h2, h3, h4, h5⟩ := nextR_at hi h hk
    simp only [List.getD_cons_zero]
    rw [h1]
    omega
theorem toks_get {s : List UInt8} {i n : Nat} {e : Int} {L : List (Tk × Int)} (h : Toks s i L n e) : i ≤ s.length → ∀ j, j < L.length → ∃ f nx : Nat, (L.getD j tokZ).2 = f ∧ f < s.length ∧ nextR s f = ((L.getD j tokZ).1, (f : Int), nx, 0) ∧ f < nx ∧ (j + 1 < L.length → (nx : Int) ≤ (L.getD (j + 1) tokZ).2) := by
  induction h with
  | stop i h hk => intro _ j hj; simp at hj
  | err i h => intro _ j hj; simp at hj
  | cons i L n e h hk ht ih =>
    intro hi j hj
    obtain ⟨n1, n2⟩ := next_ok hi h
    cases j with
    | zero =>
      obtain ⟨f, h1, h2, h3, h4, h5⟩ := nextR_at hi h hk
      refine ⟨f, (nextR s i).2.2.1, by simpa using h1, h3, ?_, h5, fun hl => ?_⟩
      · rw [h4]
        simp only [List.getD_cons_zero]
        rw [← h1, ← h]
      · simp only [List.getD_cons_succ]
        exact toks_ge ht n1 (by simpa using hl)
    | succ j =>
      obtain ⟨f, nx, h1, h2, h3, h4, h5⟩ := ih n1 j (by simpa using hj)
      refine ⟨f, nx, by simpa using h1, h2, by simpa using h3, h4, fun hl => ?_⟩
      have := h5 (by simpa using hl)
      simpa using this
end Go.Proofs
