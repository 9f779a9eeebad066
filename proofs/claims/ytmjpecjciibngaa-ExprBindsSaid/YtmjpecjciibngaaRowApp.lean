/- Owned rows of tables and of ints: appends of parts of rows, stores of a table. -/
import Derived.Test.YtmjpecjciibngaaBinds2
import Derived.Laws.OwnMore
namespace Go.Proofs.Ytmjpecjciibngaa
open Go.RowKit
set_option linter.unusedVariables false

/-- What appending to a row of the call's own leaves. -/
def PutsR (B : Nat) (e : TypeId) (sz : Nat) (v : Value) (w : World) (v' : Value) (n : Nat) (xs : List Value) (w' : World) : Prop :=
  w'.ownsRow B e sz v' n xs ∧ w.grownBy w' v.ownBlock ∧ Lies w.heap.size v v'
theorem run_app_tab (w : World) (B : Nat) (ty : TypeId) (v : Value) (n : Nat) (xs : List Value) (hown : w.ownsRow B 29 4 v n xs) (hB : B ≤ w.heap.size) (ad : Addr) (m c : Nat) (news : List Value) (hl : news.length = m * 4)
    (hnews : ∀ j u, news[j]? = some u → w.cell? (ad.add j) = some u) (h1 : ∀ u ∈ news, u.oneCell' = true) (hn : n + m ≤ 1000) :
    ∃ v' w', (Builtin.append_ #[26, 26] ty #[v, .slice (some ad) m c]).run Try.prog w = .ok v' w' ∧ PutsR B 29 4 v w v' (n + m) (xs ++ news) w' := by
  obtain ⟨i0, hi0, hz0, hz1, hz2⟩ := info_parts tabInfo
  obtain ⟨v', w', hr, h2, h3, _, h5⟩ := run_append_own_at (P := Try.prog) w B 26 ty 29 i0 (.agg zeroTab) 4 32 Try.underlying26 hi0 hz0 hz1 hz2 rfl (by omega) v n xs hown ad m c news hl hnews h1 (by unfold maxLen; omega) (by omega) hB
  exact ⟨v', w', hr, h2, h3, h5.elim .inl fun h => .inr ⟨_, h, Nat.le_refl _⟩⟩
theorem run_app_int (w : World) (B : Nat) (ty : TypeId) (v : Value) (n : Nat) (xs : List Value) (hown : w.ownsRow B 3 1 v n xs) (hB : B ≤ w.heap.size) (ad : Addr) (m c : Nat) (news : List Value) (hl : news.length = m * 1)
    (hnews : ∀ j u, news[j]? = some u → w.cell? (ad.add j) = some u) (h1 : ∀ u ∈ news, u.oneCell' = true) (hn : n + m ≤ 1000) :
    ∃ v' w', (Builtin.append_ #[31, 31] ty #[v, .slice (some ad) m c]).run Try.prog w = .ok v' w' ∧ PutsR B 3 1 v w v' (n + m) (xs ++ news) w' := by
  obtain ⟨i0, hi0, hz0, hz1, hz2⟩ := info_parts intInfo
  obtain ⟨v', w', hr, h2, h3, _, h5⟩ := run_append_own_at (P := Try.prog) w B 31 ty 3 i0 (.int .i64 0) 1 8 Try.underlying31 hi0 hz0 hz1 hz2 rfl (by omega) v n xs hown ad m c news hl hnews h1 (by unfold maxLen; omega) (by omega) hB
  exact ⟨v', w', hr, h2, h3, h5.elim .inl fun h => .inr ⟨_, h, Nat.le_refl _⟩⟩
/-- A step of a plain region that is an append, from its run. -/
theorem wpList_step_run {P : Program} {w : World} {ops : Array Oper} {rest : List Oper} {o : Oper} {a : Act} {Q : Exit → Act → World → Prop} (hgd : o.guard = none) (s x : Operand) (t u : TypeId)
    (ho : o.op = .call { callee := .builtin .append, args := #[s, x], argTypes := #[t, u] }) {R : Value → World → Prop} (v x' : Value) (hs : a.eval s = v) (hx : a.eval x = x')
    (hr : ∃ v' w', (Builtin.append_ #[t, u] o.type #[v, x']).run P w = .ok v' w' ∧ R v' w') (h : ∀ v' w', R v' w' → wpList P ops Q rest (a.put o.dst v') w') : wpList P ops Q (o :: rest) a w := by
  refine wpList_plain hgd fun K hK => ?_
  obtain ⟨v', w', hr, hR⟩ := hr
  unfold Oper.wp execOp
  simp only [ho, resolve, invoke, builtin, Sem.run_bind, Sem.run_pure, Result.andThen_ok, List.map_toArray, List.map_cons, List.map_nil, hs, hx, hr]
  exact hK _ _ (h v' w' hR)
section
variable {w w' w2 : World} {B : Nat} {e e2 : TypeId} {sz sz2 n n2 : Nat} {v v' v2 : Value} {xs ys : List Value}
theorem own_form (h : w.ownsRow B e sz v n xs) (hn : 0 < n) : ∃ g cap, v = .slice (some ⟨g, 0, none⟩) n cap ∧ n ≤ cap ∧ B ≤ g ∧ g < w.heap.size ∧ v.ownBlock = some g := by
  rcases h.2 with ⟨rfl, h0⟩ | ⟨g, cap, cur, rfl, hb, hg, hnc, _⟩
  · omega
  · exact ⟨g, cap, rfl, hnc, hb, (Blk.lt (cs := cur) (t := e) hg), rfl⟩
theorem part_cells {g cap : Nat} (h : w.ownsRow B e sz (.slice (some ⟨g, 0, none⟩) n cap) n xs) (lo k : Nat) : ∀ j u, ((xs.drop lo).take k)[j]? = some u → w.cell? ((⟨g, lo, none⟩ : Addr).add j) = some u := by
  intro j u hj
  have h1 : xs[lo + j]? = some u := by
    rw [List.getElem?_take] at hj
    split at hj
    · rwa [List.getElem?_drop] at hj
    · cases hj
  have h2 := h.cells (g := g) rfl (lo + j) u h1
  rwa [show (⟨g, 0, none⟩ : Addr).add (lo + j) = (⟨g, lo, none⟩ : Addr).add j by unfold Addr.add; by_cases h0 : j = 0 <;> by_cases h1 : lo = 0 <;> simp [h0, h1]] at h2
theorem PutsR.own (h : PutsR B e sz v w v' n xs w') : w'.ownsRow B e sz v' n xs := h.1
/-- What another row holds stays. -/
theorem PutsR.far (h : PutsR B e sz v w v' n xs w') (k : w.ownsRow B e2 sz2 v2 n2 ys) (hne : ∀ g, v2.ownBlock = some g → v.ownBlock ≠ some g) : w'.ownsRow B e2 sz2 v2 n2 ys :=
  World.ownsRow.kept k h.2.1 (by
    cases hv : v2.ownBlock with
    | none => exact .inl rfl
    | some g => exact .inr fun e => hne g hv e.symm)
/-- The two rows lie in different blocks, behind an append to the first. -/
theorem PutsR.ne1 (h : PutsR B e sz v w v' n xs w') (k : w.ownsRow B e2 sz2 v2 n2 ys) (hne : ∀ g, v2.ownBlock = some g → v.ownBlock ≠ some g) : ∀ g, v2.ownBlock = some g → v'.ownBlock ≠ some g := by
  intro g hg
  rcases h.2.2 with e | ⟨g', e, hg'⟩
  · rw [e]; exact hne g hg
  · rw [e]
    intro e'
    injection e' with e'
    have := (k.lt g hg).2
    omega
theorem PutsR.blk {g : Nat} {t : TypeId} {cs : Array Value} (h : PutsR B e sz v w v' n xs w') (hv : w.ownsRow B e sz v n2 ys) (hb : Blk w g t cs) (hg : g < B) : Blk w' g t cs :=
  hb.grown h.2.1 (by intro e; have := (hv.lt g e.symm).1; omega)
theorem PutsR.below {A : World} (h : PutsR B e sz v w v' n xs w') (hv : w.ownsRow B e sz v n2 ys) (hA : Below A.heap.size A w) (hH : A.heap.size ≤ B) : Below A.heap.size A w' :=
  ⟨h.2.1.os.trans hA.os, h.2.1.tape.trans hA.tape, h.2.1.output.trans hA.output, Nat.le_trans hA.size h.2.1.size, fun i hi => (h.2.1.block i (Nat.lt_of_lt_of_le hi hA.size) (by intro e; have := (hv.lt i e.symm).1; omega)).trans (hA.block i hi)⟩
end
theorem tab_one (ts : List Tree) : ∀ u ∈ tabRow ts, u.oneCell' = true := by
  intro u hu
  simp only [tabRow, List.mem_flatMap] at hu
  obtain ⟨t, _, hu⟩ := hu
  simp only [List.mem_cons, List.not_mem_nil, or_false] at hu
  rcases hu with rfl | rfl | rfl | rfl <;> rfl
theorem int_one (os : List Nat) : ∀ u ∈ opCells os, u.oneCell' = true := by
  intro u hu
  simp only [opCells, List.mem_map] at hu
  obtain ⟨o, _, rfl⟩ := hu
  rfl
theorem tab_drop : ∀ (i : Nat) (ts : List Tree), (tabRow ts).drop (i * 4) = tabRow (ts.drop i)
  | 0, ts => by simp
  | i + 1, [] => by simp [tabRow]
  | i + 1, t :: ts => by
    rw [show tabRow (t :: ts) = (tabCells (tb t)).toList ++ tabRow ts from rfl, List.drop_append, List.drop_eq_nil_of_le (by simp; omega), List.nil_append]
    rw [show (i + 1) * 4 - (tabCells (tb t)).toList.length = i * 4 by simp; omega]
    exact tab_drop i ts
theorem tab_take : ∀ (i : Nat) (ts : List Tree), (tabRow ts).take (i * 4) = tabRow (ts.take i)
  | 0, ts => by simp [tabRow]
  | i + 1, [] => by simp [tabRow]
  | i + 1, t :: ts => by
    rw [show tabRow (t :: ts) = (tabCells (tb t)).toList ++ tabRow ts from rfl, List.take_append, List.take_of_length_le (by simp; omega)]
    rw [show (i + 1) * 4 - (tabCells (tb t)).toList.length = i * 4 by simp; omega, tab_take i ts]
    rfl
theorem tab_set : ∀ (i : Nat) (ts : List Tree) (t' : Tree), i < ts.length →
    ((((tabRow ts).set (i * 4) (.int .u64 (wd (tb t') 0 : Nat))).set (i * 4 + 1) (.int .u64 (wd (tb t') 1 : Nat))).set (i * 4 + 2) (.int .u64 (wd (tb t') 2 : Nat))).set (i * 4 + 3) (.int .u64 (wd (tb t') 3 : Nat)) = tabRow (ts.set i t')
  | i, [], t', h => absurd h (by simp)
  | 0, t :: ts, t', _ => rfl
  | i + 1, t :: ts, t', h => by
    have ih := tab_set i ts t' (by simpa using h)
    rw [show tabRow (t :: ts) = .int .u64 (wd (tb t) 0 : Nat) :: .int .u64 (wd (tb t) 1 : Nat) :: .int .u64 (wd (tb t) 2 : Nat) :: .int .u64 (wd (tb t) 3 : Nat) :: tabRow ts from rfl]
    rw [show (i + 1) * 4 + 3 = (i * 4 + 3) + 1 + 1 + 1 + 1 by omega, show (i + 1) * 4 + 2 = (i * 4 + 2) + 1 + 1 + 1 + 1 by omega, show (i + 1) * 4 + 1 = (i * 4 + 1) + 1 + 1 + 1 + 1 by omega, show (i + 1) * 4 = (i * 4) + 1 + 1 + 1 + 1 by omega]
    simp only [List.set_cons_succ, ih]
    rfl
theorem store_tab {w : World} {B g n cap : Nat} {ts : List Tree} (h : w.ownsRow B 29 4 (.slice (some ⟨g, 0, none⟩) n cap) n (tabRow ts)) (i : Nat) (hi : i < ts.length) (t' : Tree) :
    ((((w.setCell ⟨g, i * 4, none⟩ (.int .u64 (wd (tb t') 0 : Nat))).setCell ⟨g, i * 4 + 1, none⟩ (.int .u64 (wd (tb t') 1 : Nat))).setCell ⟨g, i * 4 + 2, none⟩ (.int .u64 (wd (tb t') 2 : Nat))).setCell ⟨g, i * 4 + 3, none⟩ (.int .u64 (wd (tb t') 3 : Nat))).ownsRow B 29 4 (.slice (some ⟨g, 0, none⟩) n cap) n (tabRow (ts.set i t')) := by
  have := ((((h.stored (i * 4) (.int .u64 (wd (tb t') 0 : Nat))).1.stored (i * 4 + 1) (.int .u64 (wd (tb t') 1 : Nat))).1.stored (i * 4 + 2) (.int .u64 (wd (tb t') 2 : Nat))).1.stored (i * 4 + 3) (.int .u64 (wd (tb t') 3 : Nat))).1
  rwa [tab_set i ts t' hi] at this
theorem tail_app : ∀ a b : Row, tailB (a ++ b) = tailB a ++ tailB b
  | [], b => rfl
  | (o, d) :: a, b => by simp [tailB, tail_app a b]
theorem text_snoc (d : Nat) (r : Row) (m e : Nat) : str (textR d r) ++ ⟨#[32]⟩ ++ str (sgn m) ++ ⟨#[32]⟩ ++ str [118, dg e] = str (textR d (r ++ [(m, e)])) := by
  rw [show (⟨#[32]⟩ : ByteArray) = str [32] from rfl]
  simp only [str_app]
  congr 1
  simp [textR, tail_app, tailB]
theorem trees_snoc (d : Nat) (r : Row) (m e : Nat) : tabRow (treesOf (leafT d, rowT (r ++ [(m, e)]))) = tabRow (treesOf (leafT d, rowT r)) ++ (tabCells (fun x : Nat => x.testBit e)).toList := by
  have : treesOf (leafT d, rowT (r ++ [(m, e)])) = treesOf (leafT d, rowT r) ++ [leafT e] := by simp [treesOf, rowT]
  rw [this, tabRow_app]
  rfl
theorem ops_snoc (r : Row) (m e : Nat) : opCells ((r ++ [(m, e)]).map (·.1)) = opCells (r.map (·.1)) ++ [.int .i64 (m : Int)] := by simp [opCells]
/-- The law's two rows stand at s. -/
def BState (w wr : World) (B : Nat) (vT vO : Value) (s : RowT) : Prop :=
  s.2.length ≤ 6 ∧ (∀ p ∈ s.2, p.1 < 5) ∧ wr.ownsRow B 29 4 vT (s.2.length + 1) (tabRow (treesOf s)) ∧ wr.ownsRow B 3 1 vO s.2.length (opCells (opsOf s)) ∧
  (∀ g, vO.ownBlock = some g → vT.ownBlock ≠ some g) ∧ Below w.heap.size w wr ∧ w.heap.size ≤ B ∧ B ≤ wr.heap.size
def lenV : Value → Nat | .slice _ n _ => n | _ => 0
theorem BState.ops5 {w wr : World} {B : Nat} {vT vO : Value} {s : RowT} (h : BState w wr B vT vO s) : ∀ x ∈ opsOf s, x < 5 := by
  intro x hx
  simp only [opsOf, List.mem_map] at hx
  obtain ⟨p, hp, rfl⟩ := hx
  exact h.2.1 p hp
theorem BState.facts {w wr : World} {B : Nat} {vT vO : Value} {s : RowT} {k i : Nat} (h : BState w wr B vT vO s) (hk : k < 5) (hi : firstL (opsOf s) k = i) :
    ∃ (L : Nat) (a b : Tree) (gT cT gO cO : Nat), s.2.length = L ∧ L ≤ 6 ∧ i < L ∧ (treesOf s)[i]? = some a ∧ (treesOf s)[i + 1]? = some b ∧ (s.2[i]?).map (·.1) = some k ∧
      vT = .slice (some ⟨gT, 0, none⟩) (L + 1) cT ∧ vO = .slice (some ⟨gO, 0, none⟩) L cO ∧ L + 1 ≤ cT ∧ L ≤ cO ∧ gT < wr.heap.size ∧ gO < wr.heap.size ∧ gO ≠ gT ∧ B ≤ gT ∧ B ≤ gO := by
  obtain ⟨h6, h5, hT, hO, hne, hb, h1, h2⟩ := h
  obtain ⟨i', e1, e2, _, _⟩ := firstTo_some (opsOf s) k (opsOf s).length (by unfold firstL at hi; omega)
  obtain rfl : i' = i := by unfold firstL at hi; omega
  have hil : i' < s.2.length := by
    rcases Nat.lt_or_ge i' s.2.length with hl | hl
    · exact hl
    · rw [List.getElem?_eq_none (by simpa [opsOf] using hl)] at e2; cases e2
  have hlt : (treesOf s).length = s.2.length + 1 := by simp [treesOf]
  obtain ⟨gT, cT, rfl, hcT, hgB, hgT, hoT⟩ := own_form hT (by omega)
  obtain ⟨gO, cO, rfl, hcO, hgB2, hgO, hoO⟩ := own_form hO (by omega)
  exact ⟨s.2.length, (treesOf s)[i']'(by omega), (treesOf s)[i' + 1]'(by omega), gT, cT, gO, cO, rfl, h6, hil, List.getElem?_eq_getElem _, List.getElem?_eq_getElem _, by rw [← e2]; simp [opsOf], rfl, rfl, hcT, hcO, hgT, hgO,
    fun e => hne gO hoO (by rw [hoT, e]), hgB, hgB2⟩
theorem BState.tabCell {w wr : World} {B g L c i : Nat} {vO : Value} {s : RowT} {a : Tree} (h : BState w wr B (.slice (some ⟨g, 0, none⟩) L c) vO s) (ha : (treesOf s)[i]? = some a) :
    wr.cell? ⟨g, i * 4, none⟩ = some (.int .u64 (wd (tb a) 0 : Nat)) ∧ wr.cell? ⟨g, i * 4 + 1, none⟩ = some (.int .u64 (wd (tb a) 1 : Nat)) ∧ wr.cell? ⟨g, i * 4 + 2, none⟩ = some (.int .u64 (wd (tb a) 2 : Nat)) ∧ wr.cell? ⟨g, i * 4 + 3, none⟩ = some (.int .u64 (wd (tb a) 3 : Nat)) := by
  obtain ⟨h6, h5, hT, _⟩ := h
  have := tabRow_get _ i a ha
  have e : ∀ j u, (tabRow (treesOf s))[j]? = some u → wr.cell? ⟨g, j, none⟩ = some u := fun j u hj => by
    have := hT.cells (g := g) rfl j u hj
    rwa [add0] at this
  exact ⟨e _ _ this.1, e _ _ this.2.1, e _ _ this.2.2.1, e _ _ this.2.2.2⟩
/-- Behind the store of a table at place i of the first row. -/
theorem stored_state {w wr wj W : World} {B gT cT gO cO L i : Nat} {s : RowT} {J : Nat → Bool}
    (hW : W = (((wj.setCell ⟨gT, i * 4, none⟩ (.int .u64 (wd J 0 : Nat))).setCell ⟨gT, i * 4 + 1, none⟩ (.int .u64 (wd J 1 : Nat))).setCell ⟨gT, i * 4 + 2, none⟩ (.int .u64 (wd J 2 : Nat))).setCell ⟨gT, i * 4 + 3, none⟩ (.int .u64 (wd J 3 : Nat)))
    {vT vO : Value} (hS : BState w wr B vT vO s)
    (hT : wr.ownsRow B 29 4 (.slice (some ⟨gT, 0, none⟩) (L + 1) cT) (L + 1) (tabRow (treesOf s))) (hO : wr.ownsRow B 3 1 (.slice (some ⟨gO, 0, none⟩) L cO) L (opCells (opsOf s)))
    (hL : s.2.length = L) (hb : Below wr.heap.size wr wj) (hi : i < L) (hne : gO ≠ gT) (hg : B ≤ gT) (t' : Tree) (ht : tb t' = J) :
    W.ownsRow B 29 4 (.slice (some ⟨gT, 0, none⟩) (L + 1) cT) (L + 1) (tabRow ((treesOf s).set i t')) ∧ W.ownsRow B 3 1 (.slice (some ⟨gO, 0, none⟩) L cO) L (opCells (opsOf s)) ∧ Below w.heap.size w W := by
  subst ht
  have hTj := World.ownsRow.kept hT (grown_below hb none) (by simp [Value.ownBlock])
  have hOj := World.ownsRow.kept hO (grown_below hb none) (by simp [Value.ownBlock])
  have hbw := (hS.2.2.2.2.2.1).step hb
  have hle := hS.2.2.2.2.2.2.1
  have hs := store_tab hTj i (by simp [treesOf]; omega) t'
  have hgr : wj.grownBy ((((wj.setCell ⟨gT, i * 4, none⟩ (.int .u64 (wd (tb t') 0 : Nat))).setCell ⟨gT, i * 4 + 1, none⟩ (.int .u64 (wd (tb t') 1 : Nat))).setCell ⟨gT, i * 4 + 2, none⟩ (.int .u64 (wd (tb t') 2 : Nat))).setCell ⟨gT, i * 4 + 3, none⟩ (.int .u64 (wd (tb t') 3 : Nat))) (some gT) :=
    grown_at (grown_at (grown_at (grown_at (grown_below (Below.refl _ wj) _) _ _) _ _) _ _) _ _
  rw [← hW] at hs hgr
  refine ⟨hs, World.ownsRow.kept hOj hgr (.inr (by simp [Value.ownBlock, hne])), ?_⟩
  rw [hW]
  exact (((hbw.setCell (p := ⟨gT, i * 4, none⟩) (by simp; omega) _).setCell (p := ⟨gT, i * 4 + 1, none⟩) (by simp; omega) _).setCell (p := ⟨gT, i * 4 + 2, none⟩) (by simp; omega) _).setCell (p := ⟨gT, i * 4 + 3, none⟩) (by simp; omega) _
/-- The end of a row, where an empty end of a full row may begin at its beginning. -/
theorem part_end {w : World} {B sz : Nat} {e : TypeId} {xs : List Value} {g cap n lo k : Nat} (c : Prop) [Decidable c] (hc : c → k = 0) (h : w.ownsRow B e sz (.slice (some ⟨g, 0, none⟩) n cap) n xs) :
    ∀ (o : Nat), ∀ j u, ((xs.drop lo).take (k * o))[j]? = some u → w.cell? ((if c then (⟨g, 0, none⟩ : Addr) else ⟨g, lo, none⟩).add j) = some u := by
  intro o j u hj
  by_cases h0 : c
  · rw [hc h0] at hj; simp at hj
  · rw [if_neg h0]; exact part_cells h lo _ j u hj
theorem ite_some {α : Type} {c : Prop} [Decidable c] (a b : α) : some (if c then a else b) = if c then some a else some b := by split <;> rfl
section
variable {W : World} {B g cap L i : Nat}
theorem tab_cut1 {ts : List Tree} (hT : W.ownsRow B 29 4 (.slice (some ⟨g, 0, none⟩) (L + 1) cap) (L + 1) (tabRow ts)) (hts : ts.length = L + 1) (hi : i < L) (hL : L ≤ 6) (hB : B ≤ W.heap.size) (ty : TypeId) (c : Nat) :
    ∃ v' w', (Builtin.append_ #[26, 26] ty #[.slice none 0 0, .slice (some ⟨g, 0, none⟩) (i + 1) c]).run Try.prog W = .ok v' w' ∧ PutsR B 29 4 (.slice none 0 0) W v' (i + 1) (tabRow (ts.take (i + 1))) w' := by
  have := run_app_tab W B ty (.slice none 0 0) 0 [] (World.ownsRow_nil _ _ _ _) hB ⟨g, 0, none⟩ (i + 1) c (((tabRow ts).drop 0).take ((i + 1) * 4)) (by simp [tabRow_len, hts]; omega) (part_cells hT 0 _) (fun u hu => tab_one _ u (List.mem_of_mem_take hu)) (by omega)
  rwa [List.drop_zero, tab_take, Nat.zero_add, List.nil_append] at this
theorem tab_cut2 {ts : List Tree} {v : Value} {n : Nat} {xs : List Value} (hv : W.ownsRow B 29 4 v n xs) (hT : W.ownsRow B 29 4 (.slice (some ⟨g, 0, none⟩) (L + 1) cap) (L + 1) (tabRow ts)) (hts : ts.length = L + 1) (hi : i < L) (hL : L ≤ 6) (hn : n ≤ 6) (hcap : L + 1 ≤ cap) (hB : B ≤ W.heap.size) (ty : TypeId) (c : Nat) :
    ∃ v' w', (Builtin.append_ #[26, 26] ty #[v, .slice (if cap = i + 2 then some ⟨g, 0, none⟩ else some ⟨g, (i + 2) * 4, none⟩) (L - (i + 1)) c]).run Try.prog W = .ok v' w' ∧ PutsR B 29 4 v W v' (n + (L - (i + 1))) (xs ++ tabRow (ts.drop (i + 2))) w' := by
  have := run_app_tab W B ty v n xs hv hB (if cap = i + 2 then (⟨g, 0, none⟩ : Addr) else ⟨g, (i + 2) * 4, none⟩) (L - (i + 1)) c (((tabRow ts).drop ((i + 2) * 4)).take ((L - (i + 1)) * 4)) (by simp [tabRow_len, hts]; omega) (part_end (cap = i + 2) (by omega) hT _) (fun u hu => tab_one _ u (List.mem_of_mem_drop (List.mem_of_mem_take hu))) (by omega)
  rwa [tab_drop, tab_take, List.take_of_length_le (by rw [List.length_drop]; omega), ite_some] at this
theorem int_cut1 {os : List Nat} (hT : W.ownsRow B 3 1 (.slice (some ⟨g, 0, none⟩) L cap) L (opCells os)) (hts : os.length = L) (hi : i < L) (hL : L ≤ 6) (hB : B ≤ W.heap.size) (ty : TypeId) (c : Nat) :
    ∃ v' w', (Builtin.append_ #[31, 31] ty #[.slice none 0 0, .slice (some ⟨g, 0, none⟩) i c]).run Try.prog W = .ok v' w' ∧ PutsR B 3 1 (.slice none 0 0) W v' i (opCells (os.take i)) w' := by
  have := run_app_int W B ty (.slice none 0 0) 0 [] (World.ownsRow_nil _ _ _ _) hB ⟨g, 0, none⟩ i c (((opCells os).drop 0).take i) (by simp [hts]; omega) (part_cells hT 0 _) (fun u hu => int_one _ u (List.mem_of_mem_take hu)) (by omega)
  rwa [List.drop_zero, ← List.map_take, Nat.zero_add, List.nil_append] at this
theorem int_cut2 {os : List Nat} {v : Value} {n : Nat} {xs : List Value} (hv : W.ownsRow B 3 1 v n xs) (hT : W.ownsRow B 3 1 (.slice (some ⟨g, 0, none⟩) L cap) L (opCells os)) (hts : os.length = L) (hi : i < L) (hL : L ≤ 6) (hn : n ≤ 6) (hcap : L ≤ cap) (hB : B ≤ W.heap.size) (ty : TypeId) (c : Nat) :
    ∃ v' w', (Builtin.append_ #[31, 31] ty #[v, .slice (if cap = i + 1 then some ⟨g, 0, none⟩ else some ⟨g, i + 1, none⟩) (L - (i + 1)) c]).run Try.prog W = .ok v' w' ∧ PutsR B 3 1 v W v' (n + (L - (i + 1))) (xs ++ opCells (os.drop (i + 1))) w' := by
  have := run_app_int W B ty v n xs hv hB (if cap = i + 1 then (⟨g, 0, none⟩ : Addr) else ⟨g, i + 1, none⟩) (L - (i + 1)) c (((opCells os).drop (i + 1)).take ((L - (i + 1)) * 1)) (by simp [hts]) (part_end (cap = i + 1) (by omega) hT _) (fun u hu => int_one _ u (List.mem_of_mem_drop (List.mem_of_mem_take hu))) (by omega)
  rwa [← List.map_drop, ← List.map_take, List.take_of_length_le (by rw [List.length_drop]; omega), ite_some] at this
end
theorem stepAt_len : ∀ (i : Nat) (r : List (Nat × Tree)) (x : Tree), i < r.length → (stepAt jnT i x r).2.length = r.length - 1
  | i, [], x, h => absurd h (by simp)
  | 0, (j, y) :: r, x, h => by simp [stepAt]
  | i + 1, (j, y) :: r, x, h => by
    have h' : i < r.length := by simpa using h
    have := stepAt_len i r y h'
    simp only [stepAt, List.length_cons, this]
    omega
theorem stepAt_ops : ∀ (i : Nat) (r : List (Nat × Tree)) (x : Tree), (∀ p ∈ r, p.1 < 5) → ∀ p ∈ (stepAt jnT i x r).2, p.1 < 5
  | i, [], x, h => by cases i <;> simp [stepAt]
  | 0, (j, y) :: r, x, h => fun p hp => h p (by simp [stepAt] at hp; simp [hp])
  | i + 1, (j, y) :: r, x, h => fun p hp => by
    simp only [stepAt, List.mem_cons] at hp
    rcases hp with rfl | hp
    · exact h (j, y) (by simp)
    · exact stepAt_ops i r y (fun q hq => h q (by simp [hq])) p hp
/-- The state behind one sign worked out. -/
theorem step_state {w wr W4 : World} {B L i k : Nat} {vT vO v2 v4 : Value} {s : RowT} {a b : Tree} (hS : BState w wr B vT vO s) (hL : s.2.length = L) (hI : firstL (opsOf s) k = i) (hk : k < 5)
    (ha : (treesOf s)[i]? = some a) (hb : (treesOf s)[i + 1]? = some b) (hop : (s.2[i]?).map (·.1) = some k)
    (hT : W4.ownsRow B 29 4 v2 (i + 1 + (L - (i + 1))) (tabRow (((treesOf s).set i (jnT k a b)).take (i + 1)) ++ tabRow (((treesOf s).set i (jnT k a b)).drop (i + 2))))
    (hO : W4.ownsRow B 3 1 v4 (i + (L - (i + 1))) (opCells ((opsOf s).take i) ++ opCells ((opsOf s).drop (i + 1))))
    (hN : ∀ g, v2.ownBlock = some g → v4.ownBlock ≠ some g) (hB : Below w.heap.size w W4) (h1 : w.heap.size ≤ B) (h2 : B ≤ W4.heap.size) :
    BState w W4 B v2 v4 (stepAt jnT i s.1 s.2) ∧ restM k (stepAt jnT i s.1 s.2) = restM k s ∧ (lenV v4 : Nat) = L - 1 := by
  have hst := step_trees i s.2 s.1 a b k hop ha hb
  have hil : i < s.2.length := by
    rcases Nat.lt_or_ge i s.2.length with hl | hl
    · exact hl
    · rw [List.getElem?_eq_none hl] at hop; cases hop
  have hlen := stepAt_len i s.2 s.1 hil
  have e1 : tabRow (((treesOf s).set i (jnT k a b)).take (i + 1)) ++ tabRow (((treesOf s).set i (jnT k a b)).drop (i + 2)) = tabRow (treesOf (stepAt jnT i s.1 s.2)) := by
    rw [hst.1, ← tabRow_app]
    congr 1
    rw [List.take_add_one, List.take_set_of_le (Nat.le_refl _), List.drop_set_of_lt (by omega)]
    rw [List.getElem?_set_self (by simp [treesOf]; omega)]
    simp [treesOf]
  have e2 : opCells ((opsOf s).take i) ++ opCells ((opsOf s).drop (i + 1)) = opCells (opsOf (stepAt jnT i s.1 s.2)) := by
    rw [hst.2, opCells, opCells, ← List.map_append]
  rw [e1] at hT
  rw [e2] at hO
  refine ⟨⟨by have := hS.1; omega, stepAt_ops i s.2 s.1 hS.2.1, ?_, ?_, fun g h h' => hN g h' h, hB, h1, h2⟩, step_same k hk s i hI, ?_⟩
  · rwa [show (stepAt jnT i s.1 s.2).2.length + 1 = i + 1 + (L - (i + 1)) by omega]
  · rwa [show (stepAt jnT i s.1 s.2).2.length = i + (L - (i + 1)) by omega]
  · rcases hO.2 with ⟨rfl, h0⟩ | ⟨g, cap, cur, rfl, _⟩
    · simp only [lenV]; omega
    · simp only [lenV]; omega
theorem end_row (d : Nat) (row : Row) (hd : d < 8) (hG : GoodRow row) (hl : row.length ≤ 6) (s : RowT) (hr : restM 5 s = restM 0 (leafT d, rowT row)) {w wr : World} {B : Nat} {vT vO : Value} (hS : BState w wr B vT vO s) :
    ∃ t, parseL (textR d row) = (t, 0, 0) ∧ isT t = true ∧ smallT t = true ∧ funcF t = tb t ∧ wr.ownsRow B 29 4 vT 1 (tabCells (tb t)).toList := by
  obtain ⟨t, h1, h2, h3⟩ := parse_row d row hd hG (by omega)
  have hs : s = nAll (leafT d) (rowT row) := hr
  have hgood : GoodT (leafT d) (rowT row) := ⟨by simp [allP, allPL, plainB, kidsOf, topOf]; omega, fun p hp => by
    simp only [rowT, List.mem_map] at hp
    obtain ⟨q, hq, rfl⟩ := hp
    have := hG q hq
    exact ⟨this.1, by simp [allP, allPL, plainB, kidsOf, topOf]; omega⟩⟩
  have hn := nAll_good hgood
  have hsz : sizeR (rowT row) = 2 * row.length := by
    have : ∀ r : Row, sizeR (rowT r) = 2 * r.length := by
      intro r
      induction r with
      | nil => rfl
      | cons p r ih => simp only [sizeR, rowT, List.map_cons, List.sum_cons, List.length_cons, sizeT, sizeL] at ih ⊢; omega
    exact this row
  have hall : allP t = true := by rw [← strip_allP, h2]; exact hn.1.1
  have hsize : sizeT t ≤ 4000 := by
    have := hn.2
    rw [← strip_size, h2]
    simp only [sizeT, sizeL] at this
    omega
  have hT := isT_of hall hsize
  refine ⟨t, h1, hT, small_of t hall, by unfold funcF; rw [if_pos hT], ?_⟩
  have h4 := hS.2.2.1
  rw [hs] at h4
  rw [show treesOf (nAll (leafT d) (rowT row)) = [(nAll (leafT d) (rowT row)).1] by simp [treesOf, h3], h3, ← h2] at h4
  simpa [tabRow, strip_tb] using h4
end Go.Proofs.Ytmjpecjciibngaa
