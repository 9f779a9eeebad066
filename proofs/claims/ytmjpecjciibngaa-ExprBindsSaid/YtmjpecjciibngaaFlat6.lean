/- The reduction of a row, sign by sign. Plain facts. -/
import Derived.Test.YtmjpecjciibngaaFlat5
import Derived.Test.YtmjpecjciibngaaBinds1
namespace Go.Proofs.Ytmjpecjciibngaa
open Go.RowKit
set_option linter.unusedVariables false

abbrev RowT := Tree × List (Nat × Tree)
def lvl (k : Nat) (s : RowT) : RowT := if k = 3 then mergeR jnT 3 s.1 s.2 else mergeL jnT k s.1 s.2
def restM : Nat → RowT → RowT
  | 0, s => lvl 4 (lvl 3 (lvl 2 (lvl 1 (lvl 0 s))))
  | 1, s => lvl 4 (lvl 3 (lvl 2 (lvl 1 s)))
  | 2, s => lvl 4 (lvl 3 (lvl 2 s))
  | 3, s => lvl 4 (lvl 3 s)
  | 4, s => lvl 4 s
  | _, s => s
theorem restM_all (x : Tree) (r : List (Nat × Tree)) : restM 0 (x, r) = nAll x r := rfl
theorem restM_succ (k : Nat) (hk : k < 5) (s : RowT) : restM k s = restM (k + 1) (lvl k s) := by
  have : k = 0 ∨ k = 1 ∨ k = 2 ∨ k = 3 ∨ k = 4 := by omega
  rcases this with rfl | rfl | rfl | rfl | rfl <;> rfl
theorem lvl_none (k : Nat) (s : RowT) (h : ∀ p ∈ s.2, p.1 ≠ k) : lvl k s = s := by
  unfold lvl
  split
  · next e => subst e; exact mergeR_none jnT 3 s.2 s.1 h
  · exact mergeL_none jnT k s.2 s.1 h
def opsOf (s : RowT) : List Nat := s.2.map (·.1)
def treesOf (s : RowT) : List Tree := s.1 :: s.2.map (·.2)
/-- What firstTo says. -/
theorem firstTo_none (ops : List Nat) (o : Nat) : ∀ k, firstTo ops o k < 0 → ∀ j, j < k → ops[j]? ≠ some o
  | 0, _, j, hj => absurd hj (by omega)
  | k + 1, h, j, hj => by
    have hb := firstTo_lt ops o k
    unfold firstTo at h
    split at h
    · omega
    · next hc =>
      have ih := firstTo_none ops o k h
      by_cases hjk : j = k
      · subst hjk
        intro e
        exact hc ⟨e, .inl h⟩
      · exact ih j (by omega)
theorem firstTo_some (ops : List Nat) (o : Nat) : ∀ k, 0 ≤ firstTo ops o k → ∃ i : Nat, firstTo ops o k = i ∧ ops[i]? = some o ∧ (o ≠ 3 → ∀ j, j < i → ops[j]? ≠ some o) ∧ (o = 3 → ∀ j, i < j → j < k → ops[j]? ≠ some o)
  | 0, h => absurd h (by simp [firstTo])
  | k + 1, h => by
    unfold firstTo at h ⊢
    split
    · next hc =>
      refine ⟨k, rfl, hc.1, fun h3 j hj => ?_, fun _ j h1 h2 => absurd h1 (by omega)⟩
      rcases hc.2 with h0 | h0
      · exact firstTo_none ops o k h0 j hj
      · exact absurd h0 h3
    · next hc =>
      rw [if_neg hc] at h
      obtain ⟨i, h1, h2, h3, h4⟩ := firstTo_some ops o k h
      refine ⟨i, h1, h2, h3, fun e j hj hk => ?_⟩
      by_cases hjk : j = k
      · subst hjk
        intro e'
        exact hc ⟨e', .inr e⟩
      · exact h4 e j hj (by omega)
theorem step_same (k : Nat) (hk : k < 5) (s : RowT) (i : Nat) (h : firstL (opsOf s) k = i) : restM k (stepAt jnT i s.1 s.2) = restM k s := by
  obtain ⟨i', h1, h2, h3, h4⟩ := firstTo_some (opsOf s) k (opsOf s).length (by unfold firstL at h; omega)
  have hii : i' = i := by unfold firstL at h; omega
  subst hii
  have hm : ∀ j : Nat, (s.2[j]?).map (·.1) = (opsOf s)[j]? := fun j => by simp [opsOf]
  rw [restM_succ k hk, restM_succ k hk s]
  congr 1
  unfold lvl
  by_cases h3k : k = 3
  · subst h3k
    rw [if_pos rfl, if_pos rfl]
    refine mergeR_step jnT 3 i' s.2 s.1 (by rw [hm]; exact h2) fun j hj => ?_
    rw [hm]
    by_cases hjl : j < (opsOf s).length
    · exact h4 rfl j hj hjl
    · rw [List.getElem?_eq_none (by omega)]; simp
  · rw [if_neg h3k, if_neg h3k]
    exact mergeL_step jnT k i' s.2 s.1 (by rw [hm]; exact h2) fun j hj => by rw [hm]; exact h3 h3k j hj
theorem step_none (k : Nat) (hk : k < 5) (s : RowT) (h : firstL (opsOf s) k < 0) : restM (k + 1) s = restM k s := by
  rw [restM_succ k hk s, lvl_none k s]
  intro p hp e
  obtain ⟨n, hn, he⟩ := List.getElem_of_mem hp
  have := firstTo_none (opsOf s) k (opsOf s).length h n (by simpa [opsOf] using hn)
  apply this
  simp [opsOf, List.getElem?_eq_getElem hn, he, e]
theorem step_trees : ∀ (i : Nat) (r : List (Nat × Tree)) (x a b : Tree) (k : Nat), (r[i]?).map (·.1) = some k → (treesOf (x, r))[i]? = some a → (treesOf (x, r))[i + 1]? = some b →
    treesOf (stepAt jnT i x r) = (treesOf (x, r)).take i ++ jnT k a b :: (treesOf (x, r)).drop (i + 2) ∧ opsOf (stepAt jnT i x r) = (opsOf (x, r)).take i ++ (opsOf (x, r)).drop (i + 1)
  | i, [], x, a, b, k, h, _, _ => by simp at h
  | 0, (j, y) :: r, x, a, b, k, h, ha, hb => by
    have hj : j = k := by simpa using h
    subst hj
    simp only [treesOf, List.getElem?_cons_zero, Option.some.injEq] at ha
    simp only [treesOf, List.map_cons, List.getElem?_cons_succ, List.getElem?_cons_zero, Option.some.injEq] at hb
    subst ha; subst hb
    exact ⟨rfl, rfl⟩
  | i + 1, (j, y) :: r, x, a, b, k, h, ha, hb => by
    have ih := step_trees i r y a b k (by simpa using h) (by simpa [treesOf] using ha) (by simpa [treesOf] using hb)
    constructor
    · have := ih.1
      simp only [treesOf, stepAt, List.map_cons, List.take_succ_cons, List.drop_succ_cons, List.cons_append] at this ⊢
      rw [this]
    · have := ih.2
      simp only [opsOf, stepAt, List.map_cons, List.take_succ_cons, List.drop_succ_cons, List.cons_append] at this ⊢
      rw [this]
theorem tb_jn (k : Nat) (hk : k < 5) (a b : Tree) : tb (jnT k a b) = joinF k (tb a) (tb b) := by
  have : k = 0 ∨ k = 1 ∨ k = 2 ∨ k = 3 ∨ k = 4 := by omega
  rcases this with rfl | rfl | rfl | rfl | rfl <;> simp [jnT, kd, tb, tbs, nodeF, binF, nth, joinF]
end Go.Proofs.Ytmjpecjciibngaa
