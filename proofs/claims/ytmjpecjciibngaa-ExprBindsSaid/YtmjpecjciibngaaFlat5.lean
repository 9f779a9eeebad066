/- A row of operators between variables is read as the runs joined level by level. Plain facts. -/
import Derived.Test.YtmjpecjciibngaaFlat4
namespace Go.Proofs.Ytmjpecjciibngaa
open Go.RowKit
set_option linter.unusedVariables false

mutual
/-- How many formulas a formula has, itself too. -/
def sizeT : Tree → Nat | .node _ _ _ ks => sizeL ks + 1
def sizeL : List Tree → Nat | [] => 0 | t :: ts => sizeT t + sizeL ts
end
theorem sizeL_app : ∀ a b : List Tree, sizeL (a ++ b) = sizeL a + sizeL b
  | [], b => by simp [sizeL]
  | t :: a, b => by simp only [List.cons_append, sizeL, sizeL_app a b]; omega
theorem allPL_all : ∀ l : List Tree, allPL l = true → ∀ t ∈ l, allP t = true
  | [], _, t, h => absurd h (by simp)
  | u :: us, h, t, hm => by
    unfold allPL at h
    simp only [Bool.and_eq_true] at h
    rcases List.mem_cons.1 hm with rfl | hm
    · exact h.1
    · exact allPL_all us h.2 t hm
theorem isGo_of : ∀ (n : Nat) (l : List Tree), (∀ t ∈ l, allP t = true) → sizeL l ≤ n → isGo n l = true
  | 0, l, h, hs => by
    cases l with
    | nil => rfl
    | cons t ts =>
      cases t
      simp only [sizeL, sizeT] at hs
      omega
  | n + 1, l, h, hs => by
    rcases nil_or_snoc l with rfl | ⟨l', t, rfl⟩
    · exact isGo_nil _
    · rw [isGo_snoc]
      have ht := h t (by simp)
      cases t with
      | node k a v ks =>
        unfold allP at ht
        rw [Bool.and_eq_true] at ht
        rw [Bool.and_eq_true]
        refine ⟨ht.1, isGo_of n _ (fun u hu => ?_) ?_⟩
        · rcases List.mem_append.1 hu with hu | hu
          · exact h u (by simp [hu])
          · exact allPL_all ks ht.2 u hu
        · rw [sizeL_app] at hs ⊢
          simp only [sizeL, sizeT, Tree.kids] at hs ⊢
          omega
theorem isT_of {t : Tree} (h : allP t = true) (hs : sizeT t ≤ 4000) : isT t = true := isGo_of 4000 [t] (by simpa using h) (by simpa [sizeL] using hs)
mutual
theorem small_of : ∀ t : Tree, allP t = true → smallT t = true
  | .node k a v ks, h => by
    unfold allP at h
    rw [Bool.and_eq_true] at h
    unfold smallT
    rw [Bool.and_eq_true]
    exact ⟨by simpa using plainB_le h.1, smallL_of ks h.2⟩
theorem smallL_of : ∀ l : List Tree, allPL l = true → smallL l = true
  | [], _ => by unfold smallL; rfl
  | t :: ts, h => by
    unfold allPL at h
    rw [Bool.and_eq_true] at h
    unfold smallL
    rw [Bool.and_eq_true]
    exact ⟨small_of t h.1, smallL_of ts h.2⟩
end
mutual
theorem strip_allP : ∀ t : Tree, allP (strip t) = allP t
  | .node k a v ks => by simp only [strip, allP, stripL_len ks, stripL_allP ks]
theorem stripL_allP : ∀ l : List Tree, allPL (stripL l) = allPL l
  | [] => rfl
  | t :: ts => by simp only [stripL, allPL, strip_allP t, stripL_allP ts]
theorem stripL_len : ∀ l : List Tree, (stripL l).length = l.length
  | [] => rfl
  | t :: ts => by simp only [stripL, List.length_cons, stripL_len ts]
end
mutual
theorem strip_size : ∀ t : Tree, sizeT (strip t) = sizeT t
  | .node k a v ks => by simp only [strip, sizeT, stripL_size ks]
theorem stripL_size : ∀ l : List Tree, sizeL (stripL l) = sizeL l
  | [] => rfl
  | t :: ts => by simp only [stripL, sizeL, strip_size t, stripL_size ts]
end
mutual
theorem strip_tb : ∀ t : Tree, tb (strip t) = tb t
  | .node k a v ks => by simp only [strip, tb, stripL_tbs ks]
theorem stripL_tbs : ∀ l : List Tree, tbs (stripL l) = tbs l
  | [] => rfl
  | t :: ts => by simp only [stripL, tbs, strip_tb t, stripL_tbs ts]
end

/-- A row of formulas with good signs, of s nodes in all when joined. -/
def GoodT (x : Tree) (r : List (Nat × Tree)) : Prop := allP x = true ∧ ∀ p ∈ r, p.1 < 5 ∧ allP p.2 = true
def sizeR (r : List (Nat × Tree)) : Nat := (r.map fun p => sizeT p.2 + 1).sum
theorem allP_jn {k : Nat} (hk : k < 5) {a b : Tree} (ha : allP a = true) (hb : allP b = true) : allP (jnT k a b) = true := by
  have h5 : k = 0 ∨ k = 1 ∨ k = 2 ∨ k = 3 ∨ k = 4 := by omega
  unfold jnT
  rcases h5 with rfl | rfl | rfl | rfl | rfl <;> simp only [allP, allPL, ha, hb, kd, List.length_cons, List.length_nil] <;> decide
theorem size_jn (k : Nat) (a b : Tree) : sizeT (jnT k a b) = sizeT a + sizeT b + 1 := by simp only [jnT, sizeT, sizeL]; omega
theorem mergeL_good (k : Nat) (hk : k < 5) : ∀ (r : List (Nat × Tree)) (x : Tree), GoodT x r → GoodT (mergeL jnT k x r).1 (mergeL jnT k x r).2 ∧ sizeT (mergeL jnT k x r).1 + sizeR (mergeL jnT k x r).2 = sizeT x + sizeR r
  | [], x, h => ⟨h, rfl⟩
  | (j, y) :: r, x, h => by
    have hy := h.2 (j, y) (by simp)
    have hr : ∀ p ∈ r, p.1 < 5 ∧ allP p.2 = true := fun p hp => h.2 p (by simp [hp])
    unfold mergeL
    split
    · next e =>
      have := mergeL_good k hk r (jnT k x y) ⟨allP_jn hk h.1 hy.2, hr⟩
      refine ⟨this.1, this.2.trans ?_⟩
      rw [size_jn]; simp only [sizeR, List.map_cons, List.sum_cons]; omega
    · have := mergeL_good k hk r y ⟨hy.2, hr⟩
      refine ⟨⟨h.1, fun p hp => ?_⟩, ?_⟩
      · rcases List.mem_cons.1 hp with rfl | hp
        · exact ⟨hy.1, this.1.1⟩
        · exact this.1.2 p hp
      · have h2 := this.2
        simp only [sizeR, List.map_cons, List.sum_cons] at h2 ⊢
        omega
theorem mergeR_good (k : Nat) (hk : k < 5) : ∀ (r : List (Nat × Tree)) (x : Tree), GoodT x r → GoodT (mergeR jnT k x r).1 (mergeR jnT k x r).2 ∧ sizeT (mergeR jnT k x r).1 + sizeR (mergeR jnT k x r).2 = sizeT x + sizeR r
  | [], x, h => ⟨h, rfl⟩
  | (j, y) :: r, x, h => by
    have hy := h.2 (j, y) (by simp)
    have hr : ∀ p ∈ r, p.1 < 5 ∧ allP p.2 = true := fun p hp => h.2 p (by simp [hp])
    have := mergeR_good k hk r y ⟨hy.2, hr⟩
    have h2 := this.2
    unfold mergeR
    split
    · refine ⟨⟨allP_jn hk h.1 this.1.1, this.1.2⟩, ?_⟩
      simp only [size_jn, sizeR, List.map_cons, List.sum_cons] at h2 ⊢
      omega
    · refine ⟨⟨h.1, fun p hp => ?_⟩, ?_⟩
      · rcases List.mem_cons.1 hp with rfl | hp
        · exact ⟨hy.1, this.1.1⟩
        · exact this.1.2 p hp
      · simp only [sizeR, List.map_cons, List.sum_cons] at h2 ⊢
        omega
theorem nAll_good {x : Tree} {r : List (Nat × Tree)} (h : GoodT x r) : GoodT (nAll x r).1 (nAll x r).2 ∧ sizeT (nAll x r).1 + sizeR (nAll x r).2 = sizeT x + sizeR r := by
  have h0 := mergeL_good 0 (by omega) r x h
  have h1 := mergeL_good 1 (by omega) _ _ h0.1
  have h2 := mergeL_good 2 (by omega) _ _ h1.1
  have h3 := mergeR_good 3 (by omega) _ _ h2.1
  have h4 := mergeL_good 4 (by omega) _ _ h3.1
  exact ⟨h4.1, h4.2.trans (h3.2.trans (h2.2.trans (h1.2.trans h0.2)))⟩
theorem tail_len : ∀ r : Row, 5 * r.length ≤ (tailB r).length ∧ (tailB r).length ≤ 7 * r.length
  | [] => by simp [tailB]
  | (o, d) :: r => by
    have := tail_len r
    have hs : 1 ≤ (sgn o).length ∧ (sgn o).length ≤ 3 := by unfold sgn; split <;> simp
    simp only [tailB, List.length_cons, List.length_append, List.length_nil]
    omega
/-- The text of the row. -/
def textR (d : Nat) (r : Row) : Bs := vtok d ++ tailB r
theorem parse_row (d : Nat) (r : Row) (hd : d < 8) (hr : GoodRow r) (hl : r.length ≤ 30) : ∃ t, parseL (textR d r) = (t, 0, 0) ∧ strip t = (nAll (leafT d) (rowT r)).1 ∧ (nAll (leafT d) (rowT r)).2 = [] := by
  have hlen := tail_len r
  have hl2 : (textR d r).length = 2 + (tailB r).length := by simp [textR]; omega
  have hlex : lexFrom (textR d r) 0 = (vtok d, 0) :: toksOf r 2 := by
    unfold lexFrom
    rw [List.drop_zero]
    show lexL ((textR d r).length + 1) (vtok d ++ tailB r) 0 = _
    rw [lex_var d hd _ (tail_head r), lex_tail r _ _ hr (by omega)]
  obtain ⟨at', h1, h2⟩ := reads_iff 30 d r { toks := lexFrom (textR d r) 0, depth := 0, e := 0, eat := 0 } 0 hd hr hl rfl (by show 0 + r.length ≤ 30; omega) hlex
  have h3 := all_row 30 d r hr hl
  rw [h3.2] at h2
  refine ⟨((lev 31).iff_ { toks := lexFrom (textR d r) 0, depth := 0, e := 0, eat := 0 }).1, ?_, ?_, ?_⟩
  · unfold parseL
    rw [if_neg (by omega)]
    generalize (lev 31).iff_ { toks := lexFrom (textR d r) 0, depth := 0, e := 0, eat := 0 } = R at *
    simp only [h2]
    rfl
  · rw [h1, h3.1]
  · rw [h3.1]
end Go.Proofs.Ytmjpecjciibngaa
