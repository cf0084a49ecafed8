/-
  Walks and plain laws towards the statements of this seat (Of2). Conditions: those that each theorem names.
-/
import Derived.Test.YtclnfgmcpodeaaaDoorOf1
import Derived.DeepKeys4
set_option linter.unusedVariables false
set_option linter.unusedSimpArgs false
namespace Go.Proofs
open Go Go.Fw
set_option maxHeartbeats 4000000
/- sets as keys -/
theorem wf_u64 (a : UInt64) : (Lit.int .u64 a.toNat).wf = true := by
  have e1 : IntKind.u64.min = 0 := rfl
  have e2 : IntKind.u64.max = 18446744073709551615 := rfl
  have := a.toNat_lt
  simp only [Lit.wf, e1, e2, Bool.and_eq_true, decide_eq_true_eq]
  omega
def setK (s : W4) : Value := .agg (setL s).toArray
theorem key_set (s : W4) : ∃ l, keyOf Tryd.prog 58 (setK s) = some l := by
  have hu : (Tryd.prog).underlying 58 = some (.array 4 56) := by kernel_rfl
  have hc : (Tryd.prog).cellsOf 58 = 4 := by kernel_rfl
  have hu1 : (Tryd.prog).underlying 56 = some (.int .u64) := by kernel_rfl
  have hc1 : (Tryd.prog).cellsOf 56 = 1 := by kernel_rfl
  have hk : (Tryd.prog).keyType 58 = true := by kernel_rfl
  have hpos : decide (0 < (Tryd.prog).types.size) = true := by kernel_rfl
  obtain ⟨sz, hsz⟩ : ∃ sz, (Tryd.prog).types.size = sz + 1 := ⟨(Tryd.prog).types.size - 1, by have := of_decide_eq_true hpos; omega⟩
  have ha := wf_u64 s.a
  have hb := wf_u64 s.b
  have hcc := wf_u64 s.c
  have hd := wf_u64 s.d
  have hf : (setK s).formed Tryd.prog 58 = true := by simp [setK, setL, Value.formed, hu, hc]
  unfold keyOf
  rw [hu]
  simp only [hk, hf, Bool.and_self, if_true, hsz]
  have hcells : (setK s).cells.toList = setL s := by simp [setK, setL, Value.cells]
  rw [hcells]
  have : (Tryd.prog).keyLits (sz + 1 + 1) 58 (setL s) = some [.int .u64 s.a.toNat, .int .u64 s.b.toNat, .int .u64 s.c.toNat, .int .u64 s.d.toNat] := by
    have e4 : List.range 4 = [0, 1, 2, 3] := rfl
    simp [Program.keyLits, hu, hc, hu1, hc1, setL, ha, hb, hcc, hd, e4]
  rw [this]
  exact ⟨_, rfl⟩
theorem keyed_set : Maps.Keyed Tryd.prog 58 := Maps.Keyed.of_law (deep_law_laid (by kernel_rfl) (m := 3) (by omega) (of_decide_eq_true (by kernel_rfl)) (by kernel_rfl) (by kernel_rfl))
theorem setK_inj {s t : W4} (h : setK s = setK t) : s = t := by
  unfold setK at h
  injection h with h
  exact setL_inj.1 (by simpa using h)
def kvS (K : List W4) : List (Value × FV) := K.map fun s => (setK s, .v (.bool true))
theorem kvS_keys {K : List W4} (hn : K.Nodup) : KeysOK Tryd.prog 58 (kvS K) where
  lits p hp := by
    obtain ⟨s, _, rfl⟩ := List.mem_map.1 hp
    exact key_set s
  apart := by
    unfold kvS
    rw [List.pairwise_map]
    exact hn.imp fun hne e => hne (setK_inj e)
/-- the sets of edges, each once -/
def setsStep (acc : List W4) (e : Edge) : List W4 := if e.set ∈ acc then acc else acc ++ [e.set]
def setsOf (l : List Edge) : List W4 := l.foldl setsStep []
theorem setsOf_succ (l : List Edge) (j : Nat) (h : j < l.length) : setsOf (l.take (j + 1)) = setsStep (setsOf (l.take j)) (l.getD j edgeZ) := by
  rw [take_succ_e l j edgeZ h]; simp [setsOf]
theorem setsOf_nodup : ∀ (l : List Edge) (acc : List W4), acc.Nodup → (l.foldl setsStep acc).Nodup
  | [], acc, h => h
  | e :: l, acc, h => by
    rw [List.foldl_cons]
    refine setsOf_nodup l _ ?_
    unfold setsStep
    split
    · exact h
    · rename_i hn
      rw [List.nodup_append]
      exact ⟨h, by simp, fun a ha b hb => by simp at hb; subst hb; exact fun e => hn (e ▸ ha)⟩
theorem setsOf_len : ∀ (l : List Edge) (acc : List W4), (l.foldl setsStep acc).length ≤ acc.length + l.length
  | [], acc => by simp
  | e :: l, acc => by
    rw [List.foldl_cons]
    have := setsOf_len l (setsStep acc e)
    have h2 : (setsStep acc e).length ≤ acc.length + 1 := by unfold setsStep; split <;> simp
    simp only [List.length_cons]
    omega
/-- the edges by their first states -/
def fromOf (l : List Edge) (N : Nat) : List (List Edge) := (List.range N).map fun (s : Nat) => l.filter fun e => decide (e.fr = (s : Int))
theorem fromOf_len (l : List Edge) (N : Nat) : (fromOf l N).length = N := by simp [fromOf]
theorem fromOf_get (l : List Edge) (N s : Nat) (h : s < N) : (fromOf l N).getD s [] = l.filter fun e => decide (e.fr = (s : Int)) := by
  simp [fromOf, List.getD, List.getElem?_map, List.getElem?_range h]
theorem fromOf_snoc (l : List Edge) (N : Nat) (e : Edge) (s : Nat) (he : e.fr = s) (h : s < N) : fromOf (l ++ [e]) N = (fromOf l N).set s ((fromOf l N).getD s [] ++ [e]) := by
  apply List.ext_getElem
  · simp [fromOf]
  · intro i h1 h2
    simp only [fromOf, List.length_map, List.length_range] at h1
    rw [List.getElem_set]
    by_cases hi : s = i
    · subst hi
      rw [if_pos rfl, fromOf_get l N s h]
      simp [fromOf, he]
    · rw [if_neg hi]
      have : ¬ ((s : Int) = (i : Int)) := by omega
      simp [fromOf, he, this]
end Go.Proofs
