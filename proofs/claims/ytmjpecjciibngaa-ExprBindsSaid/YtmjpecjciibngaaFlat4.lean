/- The readers on rows come to the runs joined level by level. Plain facts. -/
import Derived.Test.YtmjpecjciibngaaFlat3
namespace Go.Proofs.Ytmjpecjciibngaa
open Go.RowKit
set_option linter.unusedVariables false

def jnT (k : Nat) (a b : Tree) : Tree := .node (kd k) 0 0 [a, b]
def rowT (r : Row) : List (Nat × Tree) := r.map fun p => (p.1, leafT p.2)
abbrev Mg := Tree → List (Nat × Tree) → Tree × List (Nat × Tree)
def cont (N : Mg) : Row → List (Nat × Tree)
  | [] => []
  | (j, y) :: r => (j, (N (leafT y) (rowT r)).1) :: (N (leafT y) (rowT r)).2
def hdGe (k : Nat) (r : Row) : Prop := ∀ j y r', r = (j, y) :: r' → k ≤ j
/-- N and F come to the same on rows of at most m; behind what F reads stands a sign from k on. -/
def Comes (m k : Nat) (N : Mg) (F : FRd) : Prop := ∀ d r, r.length ≤ m → N (leafT d) (rowT r) = ((F d r).1, cont N (F d r).2) ∧ hdGe k (F d r).2
def upL (k : Nat) (N : Mg) : Mg := fun x r => mergeL jnT k (N x r).1 (N x r).2
def upR (k : Nat) (N : Mg) : Mg := fun x r => mergeR jnT k (N x r).1 (N x r).2
theorem comes_un (m : Nat) : Comes m 0 (fun x r => (x, r)) fun_ := by
  intro d r _
  refine ⟨?_, fun j y r' _ => Nat.zero_le _⟩
  cases r with
  | nil => rfl
  | cons q r' => rfl
theorem fgo_comes {m k : Nat} {N : Mg} {F : FRd} (h : Comes m k N F) (hS : Suf F) : ∀ (n : Nat) (a : Tree) (r : Row), r.length < n → r.length ≤ m → hdGe k r →
    mergeL jnT k a (cont N r) = ((fgo k F n a r).1, cont (upL k N) (fgo k F n a r).2) ∧ hdGe (k + 1) (fgo k F n a r).2
  | 0, a, r, hn, _, _ => absurd hn (by omega)
  | n + 1, a, [], _, _, _ => ⟨rfl, fun j y r' e => by cases e⟩
  | n + 1, a, (j, y) :: r, hn, hm, hg => by
    simp only [List.length_cons] at hn hm
    have hN := h y r (by omega)
    have hlen := suf_len hS y r
    have hj := hg j y r rfl
    by_cases hjk : j = k
    · subst hjk
      rw [fgo, if_pos rfl, cont, hN.1, mergeL, if_pos rfl]
      exact fgo_comes h hS n _ _ (by omega) (by omega) hN.2
    · rw [fgo, if_neg hjk, cont, mergeL, if_neg hjk]
      refine ⟨rfl, fun j' y' r' e => ?_⟩
      cases e
      omega
theorem comes_chain {m k : Nat} {N : Mg} {F : FRd} (h : Comes m k N F) (hS : Suf F) : Comes m (k + 1) (upL k N) (fchain k F) := by
  intro d r hr
  have h1 := h d r hr
  have hlen := suf_len hS d r
  have h2 := fgo_comes h hS (2 * (F d r).2.length + 1) (F d r).1 (F d r).2 (by omega) (by omega) h1.2
  refine ⟨?_, h2.2⟩
  show mergeL jnT k (N (leafT d) (rowT r)).1 (N (leafT d) (rowT r)).2 = _
  rw [h1.1]
  exact h2.1
theorem comes_imp1 {m : Nat} {N : Mg} {Fo Fi : FRd} (h : Comes (m + 1) 3 N Fo) (hS : Suf Fo) (hi : Comes m 4 (upR 3 N) Fi) : Comes (m + 1) 4 (upR 3 N) (fimp1 Fo Fi) := by
  intro d r hr
  have h1 := h d r hr
  have hlen := suf_len hS d r
  have hu : upR 3 N (leafT d) (rowT r) = mergeR jnT 3 (Fo d r).1 (cont N (Fo d r).2) := by
    show mergeR jnT 3 (N (leafT d) (rowT r)).1 (N (leafT d) (rowT r)).2 = _
    rw [h1.1]
  rw [hu]
  unfold fimp1
  have hg := h1.2
  generalize hq : (Fo d r).2 = q at *
  cases q with
  | nil =>
    show mergeR jnT 3 (Fo d r).1 [] = ((Fo d r).1, cont (upR 3 N) (Fo d r).2) ∧ hdGe 4 (Fo d r).2
    rw [hq]
    exact ⟨rfl, fun j y r' e => by cases e⟩
  | cons jy r' =>
    obtain ⟨j, y⟩ := jy
    have hj := hg j y r' rfl
    simp only [List.length_cons] at hlen
    by_cases h3 : j = 3
    · subst h3
      have h4 := hi y r' (by omega)
      simp only [if_true]
      rw [cont, mergeR, if_pos rfl]
      have e : mergeR jnT 3 (N (leafT y) (rowT r')).1 (N (leafT y) (rowT r')).2 = ((Fi y r').1, cont (upR 3 N) (Fi y r').2) := h4.1
      rw [e]
      exact ⟨rfl, h4.2⟩
    · simp only [if_neg h3]
      rw [cont, mergeR, if_neg h3, hq]
      refine ⟨rfl, fun j' y' r'' e => ?_⟩
      cases e
      omega
def nOr : Mg := upL 2 (upL 1 (upL 0 fun x r => (x, r)))
theorem comes_or (m : Nat) : Comes m 3 nOr fOr := comes_chain (comes_chain (comes_chain (comes_un m) suf_un) (suf_chain suf_un)) (suf_chain (suf_chain suf_un))
theorem comes_imp0 (Fi : FRd) : Comes 0 4 (upR 3 nOr) (fimp1 fOr Fi) := by
  intro d r hr
  obtain rfl : r = [] := List.eq_nil_of_length_eq_zero (by omega)
  have h1 := comes_or 0 d [] (by simp)
  have hq : (fOr d []).2 = [] := List.eq_nil_of_length_eq_zero (by have := suf_len suf_or d []; simpa using this)
  have hu : upR 3 nOr (leafT d) (rowT []) = mergeR jnT 3 (fOr d []).1 (cont nOr (fOr d []).2) := by
    show mergeR jnT 3 (nOr (leafT d) (rowT [])).1 (nOr (leafT d) (rowT [])).2 = _
    rw [h1.1]
  rw [hu]
  unfold fimp1
  rw [hq]
  simp only [hq]
  exact ⟨rfl, fun j y r' e => by cases e⟩
theorem comes_imp : ∀ n, Comes n 4 (upR 3 nOr) (fImp (n + 1))
  | 0 => comes_imp0 _
  | n + 1 => comes_imp1 (comes_or (n + 1)) suf_or (comes_imp n)
def nAll : Mg := upL 4 (upR 3 nOr)
theorem comes_all (n : Nat) : Comes n 5 nAll (fIff (n + 1)) := comes_chain (comes_imp n) (suf_fimp _)
/-- The whole row. -/
theorem all_row (n d : Nat) (r : Row) (hr : GoodRow r) (hn : r.length ≤ n) : nAll (leafT d) (rowT r) = ((fIff (n + 1) d r).1, []) ∧ (fIff (n + 1) d r).2 = [] := by
  have h := comes_all n d r hn
  have hs : Suf (fIff (n + 1)) := suf_chain (suf_fimp _)
  have hg := suf_good (d := d) hs hr
  have hq : (fIff (n + 1) d r).2 = [] := by
    generalize (fIff (n + 1) d r).2 = q at *
    cases q with
    | nil => rfl
    | cons jy r' =>
      have h1 := h.2 jy.1 jy.2 r' rfl
      have h2 := (hg jy (by simp)).1
      omega
  rw [h.1, hq]
  exact ⟨rfl, rfl⟩
end Go.Proofs.Ytmjpecjciibngaa
