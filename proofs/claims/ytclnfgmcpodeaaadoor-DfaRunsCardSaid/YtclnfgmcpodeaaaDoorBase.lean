/-
  Walks and plain laws towards the statements of this seat (Base). Conditions: those that each theorem names.
-/
import Derived.Test.YtclnfgmcpodeaaaDoorFwB
set_option linter.unusedVariables false
namespace Go.Proofs
open Go Go.Fw
theorem u8_nat {n : Nat} (h : n < 256) : FV.v (.int .u8 (n : Int)) = u8 (UInt8.ofNat n) := by
  simp [u8]; omega
theorem take_succ_e {α : Type} (l : List α) (j : Nat) (d : α) (h : j < l.length) : l.take (j + 1) = l.take j ++ [l.getD j d] := by
  rw [List.take_add_one, List.getD, List.getElem?_eq_getElem h]; rfl
def boolF (b : Bool) : FV := .v (.bool b)
def intF (n : Int) : FV := .v (.int .i64 n)
theorem getD_bool (l : List Bool) (j : Nat) : (l.map boolF).getD j (.v (.bool false)) = .v (.bool (l.getD j false)) := by
  simp only [List.getD, List.getElem?_map]
  cases l[j]? <;> rfl
theorem getD_int (l : List Int) (j : Nat) : (l.map intF).getD j (.v (.int .i64 0)) = .v (.int .i64 (l.getD j 0)) := by
  simp only [List.getD, List.getElem?_map]
  cases l[j]? <;> rfl
theorem drop_getD_cons {α : Type} (l : List α) (j : Nat) (d : α) (h : j < l.length) : l.drop j = l.getD j d :: l.drop (j + 1) := by
  rw [List.drop_eq_getElem_cons h, List.getD, List.getElem?_eq_getElem h]; rfl
end Go.Proofs
