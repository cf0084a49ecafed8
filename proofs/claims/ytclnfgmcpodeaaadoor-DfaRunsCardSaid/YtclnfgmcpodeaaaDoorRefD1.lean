/-
  Walks and plain laws towards the statements of this seat (RefD1). Conditions: those that each theorem names.
-/
import Derived.Test.YtclnfgmcpodeaaaDoorDfa2
import Derived.Test.YtclnfgmcpodeaaaDoorRefM
import Derived.Lib.MinMax
set_option linter.unusedVariables false
set_option linter.unusedSimpArgs false
namespace Go.Fw
open Go
/-- the greater of two ints -/
theorem AW.maxI {C : Cx} {n : Nat} {all os : List Oper} {o : Oper} {k : List Item} {σ : St} {x y : Operand} {ts : Array TypeId} {q : IntKind} {a b : Int} (hgd : o.guard = none) (ho : o.op = .call { callee := .builtin .max, args := #[x, y], argTypes := ts })
    (hx : ev σ x = some (true, .s (.int q a))) (hy : ev σ y = some (true, .s (.int q b))) (hk : AWn C n all os k (σ.put o.dst (.s (.int q (max a b))))) : AW C all (o :: os) k σ := by
  refine AW.op _ hgd (fun ι S a w hs => ?_) hk
  have e1 := vr_v (ev_sound hs hx rfl)
  have e2 := vr_v (ev_sound hs hy rfl)
  refine .same hs (y := .int q (max _ _)) ?_ (mk_v rfl)
  simp [execOp, ho, resolve, invoke, builtin, e1, e2, Lib.run_max_ints]
end Go.Fw
namespace Go.Proofs
open Go Go.Fw
set_option maxHeartbeats 4000000
/- the parts of classes: a byte is in the part of its class -/
def PartOK (l : List Int) (b : Nat) (acc : List W4) : Prop := (∀ n, n < b → 0 ≤ l.getD n 0 ∧ l.getD n 0 < acc.length) ∧ ∀ k, k < acc.length → ∀ n, n < 256 → hasN (acc.getD k zW) n = (decide (n < b) && decide (l.getD n 0 = k))
theorem getD_snoc {α : Type} (l : List α) (x d : α) (k : Nat) : (l ++ [x]).getD k d = if k < l.length then l.getD k d else if k = l.length then x else d := by
  simp only [List.getD, List.getElem?_append]
  by_cases h : k < l.length
  · rw [if_pos h, if_pos h]
  · rw [if_neg h, if_neg h]
    by_cases h2 : k = l.length
    · rw [if_pos h2, h2]; simp
    · rw [if_neg h2, List.getElem?_eq_none (by simp; omega)]; rfl
theorem putK_ok {l : List Int} {b : Nat} {acc : List W4} (hb : b < 256) (h : PartOK l b acc) (h0 : 0 ≤ l.getD b 0) (h1 : l.getD b 0 ≤ acc.length) : PartOK l (b + 1) (putK (if l.getD b 0 = acc.length then acc ++ [zW] else acc) (l.getD b 0).toNat b) := by
  obtain ⟨p1, p2⟩ := h
  have hkn : l.getD b 0 = ((l.getD b 0).toNat : Int) := by omega
  generalize hk : (l.getD b 0).toNat = k at hkn
  have hbn : (UInt8.ofNat b).toNat = b := by simp; omega
  obtain ⟨acc', hacc, hlen, hget⟩ : ∃ acc', (if l.getD b 0 = acc.length then acc ++ [zW] else acc) = acc' ∧ (k < acc'.length ∧ acc.length ≤ acc'.length) ∧ ∀ j, j < acc'.length → ∀ n, n < 256 → hasN (acc'.getD j zW) n = (decide (n < b) && decide (l.getD n 0 = j)) := by
    by_cases he : l.getD b 0 = acc.length
    · refine ⟨acc ++ [zW], by rw [if_pos he], by simp; omega, fun j hj n hn => ?_⟩
      rw [getD_snoc]
      by_cases hja : j < acc.length
      · rw [if_pos hja]; exact p2 j hja n hn
      · have hje : j = acc.length := by simp at hj; omega
        rw [if_neg hja, if_pos hje]
        have e0 : hasN zW n = false := has_zero n
        rw [e0]
        by_cases hnb : n < b
        · have := p1 n hnb
          rw [decide_eq_false (p := l.getD n 0 = (j : Int)) (by omega), Bool.and_false]
        · rw [decide_eq_false hnb, Bool.false_and]
    · exact ⟨acc, by rw [if_neg he], by omega, p2⟩
  rw [hacc]
  unfold putK
  refine ⟨fun n hn => ?_, fun j hj n hn => ?_⟩
  · rw [List.length_set]
    by_cases hnb : n < b
    · have := p1 n hnb; omega
    · have : n = b := by omega
      subst this
      omega
  · rw [List.length_set] at hj
    have hs : (acc'.set k (anyW (acc'.getD k zW) (ofW (UInt8.ofNat b)))).getD j zW = if j = k then anyW (acc'.getD k zW) (ofW (UInt8.ofNat b)) else acc'.getD j zW := by
      simp only [List.getD, List.getElem?_set]
      by_cases hjk : j = k
      · subst hjk; simp [hj]
      · rw [if_neg (fun e => hjk e.symm), if_neg hjk]
    rw [hs]
    by_cases hjk : j = k
    · subst hjk
      rw [if_pos rfl, has_any, has_of _ _ hn, hget _ hj n hn, hbn]
      by_cases hnb : n = b
      · subst hnb
        rw [decide_eq_false (Nat.lt_irrefl _), decide_eq_true (Nat.lt_succ_self _), decide_eq_true hkn, decide_eq_true rfl]; rfl
      · have : decide (n < b + 1) = decide (n < b) := by simp only [decide_eq_decide]; omega
        rw [this, decide_eq_false hnb, Bool.or_false]
    · rw [if_neg hjk, hget j hj n hn]
      by_cases hnb : n = b
      · subst hnb
        rw [decide_eq_false (Nat.lt_irrefl _), Bool.false_and, decide_eq_false (p := l.getD n 0 = (j : Int)) (by omega), Bool.and_false]
      · have : decide (n < b + 1) = decide (n < b) := by simp only [decide_eq_decide]; omega
        rw [this]
theorem setsF_part : ∀ (r : List Int) (l : List Int) (b : Nat) (acc p : List W4), l.length = 256 → r = l.drop b → b ≤ 256 → PartOK l b acc → setsF r b acc = some p → PartOK l 256 p
  | [], l, b, acc, p, hl, hr, hb, h, hp => by
    simp only [setsF, Option.some.injEq] at hp
    subst hp
    have : b = 256 := by
      have := congrArg List.length hr
      simp at this
      omega
    subst this
    exact h
  | k :: r, l, b, acc, p, hl, hr, hb, h, hp => by
    have hb' : b < 256 := by
      have := congrArg List.length hr
      simp at this
      omega
    have hd := drop_getD_cons l b 0 (by omega)
    rw [hd] at hr
    injection hr with e1 e2
    subst e1
    rw [setsF] at hp
    split at hp
    · cases hp
    · rename_i hc
      exact setsF_part r l (b + 1) _ p hl e2 (by omega) (putK_ok hb' h (by omega) (by omega)) hp
theorem setsR_part {l : List Int} {p : List W4} (h : setsR l = some p) : (∀ n, n < 256 → 0 ≤ l.getD n 0 ∧ l.getD n 0 < p.length) ∧ ∀ k, k < p.length → ∀ n, n < 256 → hasN (p.getD k zW) n = decide (l.getD n 0 = k) := by
  unfold setsR at h
  split at h
  · rename_i hl
    have := setsF_part l l 0 [] p hl rfl (by omega) ⟨by omega, by simp⟩ h
    refine ⟨this.1, fun k hk n hn => ?_⟩
    rw [this.2 k hk n hn, decide_eq_true hn, Bool.true_and]
  · cases h
theorem setsR_make {l : List Int} {p : List W4} (h : setsR l = some p) (k : Nat) (hk : k < p.length) : makeN (fun n => decide (l.getD n 0 = (k : Int))) 256 = p.getD k zW := by
  apply w4_ext
  intro n hn
  rw [has_make _ 256 (Nat.le_refl _) n hn, (setsR_part h).2 k hk n hn, decide_eq_true hn, Bool.true_and]
end Go.Proofs
