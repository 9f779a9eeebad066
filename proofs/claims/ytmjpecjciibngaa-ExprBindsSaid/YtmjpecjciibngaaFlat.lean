/- Rows of operators: runs joined level by level; plain facts. -/
import Derived.Test.YtmjpecjciibngaaLexPure
namespace Go.Proofs.Ytmjpecjciibngaa
open Go.RowKit
set_option linter.unusedVariables false

section
variable {α : Type} (jn : Nat → α → α → α)
/-- All runs of the sign k joined from the left. -/
def mergeL (k : Nat) : α → List (Nat × α) → α × List (Nat × α)
  | x, [] => (x, [])
  | x, (j, y) :: r => if j = k then mergeL k (jn k x y) r else (x, (j, (mergeL k y r).1) :: (mergeL k y r).2)
/-- All runs of the sign k joined from the right. -/
def mergeR (k : Nat) : α → List (Nat × α) → α × List (Nat × α)
  | x, [] => (x, [])
  | x, (j, y) :: r => if j = k then (jn k x (mergeR k y r).1, (mergeR k y r).2) else (x, (j, (mergeR k y r).1) :: (mergeR k y r).2)
/-- The sign at place i is worked out. -/
def stepAt : Nat → α → List (Nat × α) → α × List (Nat × α)
  | _, x, [] => (x, [])
  | 0, x, (j, y) :: r => (jn j x y, r)
  | i + 1, x, (j, y) :: r => (x, (j, (stepAt i y r).1) :: (stepAt i y r).2)
theorem mergeL_none (k : Nat) : ∀ (r : List (Nat × α)) (x : α), (∀ p ∈ r, p.1 ≠ k) → mergeL jn k x r = (x, r)
  | [], x, _ => rfl
  | (j, y) :: r, x, h => by
    have hj : j ≠ k := h (j, y) (by simp)
    rw [mergeL, if_neg hj, mergeL_none k r y fun p hp => h p (by simp [hp])]
theorem mergeR_none (k : Nat) : ∀ (r : List (Nat × α)) (x : α), (∀ p ∈ r, p.1 ≠ k) → mergeR jn k x r = (x, r)
  | [], x, _ => rfl
  | (j, y) :: r, x, h => by
    have hj : j ≠ k := h (j, y) (by simp)
    rw [mergeR, if_neg hj, mergeR_none k r y fun p hp => h p (by simp [hp])]
/-- The first sign k, worked out: the runs come to the same. -/
theorem mergeL_step (k : Nat) : ∀ (i : Nat) (r : List (Nat × α)) (x : α), (r[i]?).map (·.1) = some k → (∀ j, j < i → (r[j]?).map (·.1) ≠ some k) → mergeL jn k (stepAt jn i x r).1 (stepAt jn i x r).2 = mergeL jn k x r
  | i, [], x, h, _ => by simp at h
  | 0, (j, y) :: r, x, h, _ => by
    have hj : j = k := by simpa using h
    subst hj
    rw [mergeL, if_pos rfl]; rfl
  | i + 1, (j, y) :: r, x, h, hb => by
    have hj : j ≠ k := by
      have := hb 0 (by omega)
      simpa using this
    have ih := mergeL_step k i r y (by simpa using h) fun j' hj' => by
      have := hb (j' + 1) (by omega)
      simpa using this
    simp only [stepAt]
    rw [mergeL, if_neg hj, mergeL, if_neg hj, ih]
/-- The last sign k, worked out: the runs from the right come to the same. -/
theorem mergeR_step (k : Nat) : ∀ (i : Nat) (r : List (Nat × α)) (x : α), (r[i]?).map (·.1) = some k → (∀ j, i < j → (r[j]?).map (·.1) ≠ some k) → mergeR jn k (stepAt jn i x r).1 (stepAt jn i x r).2 = mergeR jn k x r
  | i, [], x, h, _ => by simp at h
  | 0, (j, y) :: r, x, h, hb => by
    have hj : j = k := by simpa using h
    subst hj
    have hno : ∀ p ∈ r, p.1 ≠ j := by
      intro p hp
      obtain ⟨n, hn, e⟩ := List.getElem_of_mem hp
      have := hb (n + 1) (by omega)
      simp only [List.getElem?_cons_succ, List.getElem?_eq_getElem hn, Option.map_some, e] at this
      simpa using this
    simp only [stepAt]
    rw [mergeR, if_pos rfl, mergeR_none jn j r _ hno, mergeR_none jn j r _ hno]
  | i + 1, (j, y) :: r, x, h, hb => by
    have ih := mergeR_step k i r y (by simpa using h) fun j' hj' => by
      have := hb (j' + 1) (by omega)
      simpa using this
    simp only [stepAt]
    rw [mergeR, mergeR, ih]
end
end Go.Proofs.Ytmjpecjciibngaa
