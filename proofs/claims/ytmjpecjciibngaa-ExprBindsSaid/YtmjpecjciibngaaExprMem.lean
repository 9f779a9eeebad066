/- Formulas in memory. -/
import Derived.Test.YtmjpecjciibngaaRd2
namespace Go.Proofs.Ytmjpecjciibngaa
open Go.RowKit
set_option linter.unusedVariables false

mutual
/-- The value x is the formula, whose lists lie in blocks that ok lets. -/
def ExprV (ok : Nat → Prop) (w : World) : Tree → Value → Prop
  | .node k a v kids, x => ∃ A cap, x = .agg #[.int .i64 k, .int .i64 a, .int .i64 v, .slice A kids.length cap] ∧ KidsV ok w kids A 0
def KidsV (ok : Nat → Prop) (w : World) : List Tree → Option Addr → Nat → Prop
  | [], _, _ => True
  | t :: ts, A, i => (∃ ad c0 c1 c2 c3, A = some ad ∧ ok ad.block ∧ w.cell? (ad.add (i * 4)) = some c0 ∧ w.cell? (ad.add (i * 4 + 1)) = some c1 ∧ w.cell? (ad.add (i * 4 + 2)) = some c2 ∧ w.cell? (ad.add (i * 4 + 3)) = some c3 ∧
      ExprV ok w t (.agg #[c0, c1, c2, c3])) ∧ KidsV ok w ts A (i + 1)
end

theorem add_block (a : Addr) (n : Nat) : (a.add n).block = a.block := by unfold Addr.add; split <;> rfl

mutual
theorem ExprV.of_cells {ok : Nat → Prop} {w w' : World} (h : ∀ p v, ok p.block → w.cell? p = some v → w'.cell? p = some v) : ∀ (t : Tree) (x : Value), ExprV ok w t x → ExprV ok w' t x
  | .node k a v kids, x, hx => by
    unfold ExprV at hx ⊢
    obtain ⟨A, cap, e, hk⟩ := hx
    exact ⟨A, cap, e, KidsV.of_cells h kids A 0 hk⟩
theorem KidsV.of_cells {ok : Nat → Prop} {w w' : World} (h : ∀ p v, ok p.block → w.cell? p = some v → w'.cell? p = some v) : ∀ (ts : List Tree) (A : Option Addr) (i : Nat), KidsV ok w ts A i → KidsV ok w' ts A i
  | [], A, i, _ => by unfold KidsV; trivial
  | t :: ts, A, i, hx => by
    unfold KidsV at hx ⊢
    obtain ⟨⟨ad, c0, c1, c2, c3, e, hb, h0, h1, h2, h3, hE⟩, hr⟩ := hx
    refine ⟨⟨ad, c0, c1, c2, c3, e, hb, h _ _ ?_ h0, h _ _ ?_ h1, h _ _ ?_ h2, h _ _ ?_ h3, ExprV.of_cells h t _ hE⟩, KidsV.of_cells h ts A (i + 1) hr⟩ <;> rw [add_block] <;> exact hb
end
mutual
theorem ExprV.mono {ok ok' : Nat → Prop} {w : World} (h : ∀ g, g < w.heap.size → ok g → ok' g) : ∀ (t : Tree) (x : Value), ExprV ok w t x → ExprV ok' w t x
  | .node k a v kids, x, hx => by
    unfold ExprV at hx ⊢
    obtain ⟨A, cap, e, hk⟩ := hx
    exact ⟨A, cap, e, KidsV.mono h kids A 0 hk⟩
theorem KidsV.mono {ok ok' : Nat → Prop} {w : World} (h : ∀ g, g < w.heap.size → ok g → ok' g) : ∀ (ts : List Tree) (A : Option Addr) (i : Nat), KidsV ok w ts A i → KidsV ok' w ts A i
  | [], A, i, _ => by unfold KidsV; trivial
  | t :: ts, A, i, hx => by
    unfold KidsV at hx ⊢
    obtain ⟨⟨ad, c0, c1, c2, c3, e, hb, h0, h1, h2, h3, hE⟩, hr⟩ := hx
    have hlt := World.block_lt_of_cell? _ _ h0
    rw [add_block] at hlt
    exact ⟨⟨ad, c0, c1, c2, c3, e, h _ hlt hb, h0, h1, h2, h3, ExprV.mono h t _ hE⟩, KidsV.mono h ts A (i + 1) hr⟩
end
theorem ExprV.keep {ok : Nat → Prop} {w w' : World} {t : Tree} {x : Value} (h : ExprV ok w t x) (hb : Below w.heap.size w w') : ExprV ok w' t x :=
  ExprV.of_cells (fun p v _ hc => (hb.cell (World.block_lt_of_cell? _ _ hc)).trans hc) t x h
theorem ExprV.grown {ok : Nat → Prop} {w w' : World} {t : Tree} {x : Value} {row : Option Nat} (h : ExprV ok w t x) (hb : w.grownBy w' row) (hr : ∀ g, row = some g → ¬ ok g) : ExprV ok w' t x :=
  ExprV.of_cells (fun p v hlo hc => hb.cell hc (fun e => hr _ e.symm hlo)) t x h
theorem ExprV.drew {ok : Nat → Prop} {w : World} {t : Tree} {x : Value} (h : ExprV ok w t x) : ExprV ok w.drew t x := ExprV.of_cells (w := w) (w' := w.drew) (fun p v _ hc => hc) t x h
theorem ExprV.drewN {ok : Nat → Prop} {w : World} {t : Tree} {x : Value} (h : ExprV ok w t x) (n : Nat) : ExprV ok (w.drewN n) t x := ExprV.of_cells (w := w) (w' := w.drewN n) (fun p v _ hc => hc) t x h
theorem ExprV.alloc {ok : Nat → Prop} {w : World} {t : Tree} {x : Value} (h : ExprV ok w t x) (o : Obj) : ExprV ok (w.alloc o) t x := h.keep (below1 w o)
theorem ExprV.setCell {ok : Nat → Prop} {w : World} {t : Tree} {x : Value} (h : ExprV ok w t x) {p : Addr} (hp : ¬ ok p.block) (u : Value) : ExprV ok (w.setCell p u) t x :=
  ExprV.of_cells (fun q v hlo hc => (World.cell?_setCell_other w p q u (fun e => by subst e; exact hp hlo)).trans hc) t x h
/-- A value of four cells. -/
theorem ExprV.four {ok : Nat → Prop} {w : World} {t : Tree} {x : Value} (h : ExprV ok w t x) : ∃ (k a v : Int) (A : Option Addr) (n cap : Nat), x = .agg #[.int .i64 k, .int .i64 a, .int .i64 v, .slice A n cap] := by
  cases t
  unfold ExprV at h
  obtain ⟨A, cap, e, _⟩ := h
  exact ⟨_, _, _, _, _, _, e⟩
abbrev zeroExpr : Array Value := #[.int .i64 0, .int .i64 0, .int .i64 0, .slice none 0 0]
theorem ExprV.zero (ok : Nat → Prop) (w : World) : ExprV ok w Tree.zero (.agg zeroExpr) := by
  unfold Tree.zero ExprV
  exact ⟨none, 0, rfl, by unfold KidsV; trivial⟩
theorem ExprV.leaf (ok : Nat → Prop) (w : World) (k a v : Int) : ExprV ok w (.node k a v []) (.agg #[.int .i64 k, .int .i64 a, .int .i64 v, .slice none 0 0]) := by
  unfold ExprV
  exact ⟨none, 0, rfl, by unfold KidsV; trivial⟩
theorem ExprV.one {ok : Nat → Prop} {w : World} {t1 : Tree} {a0 a1 a2 a3 : Value} {g : Nat} {T : TypeId} (h1 : ExprV ok w t1 (.agg #[a0, a1, a2, a3])) (hg : ok g) (hB : Blk w g T #[a0, a1, a2, a3]) (k a v : Int) (cap : Nat) :
    ExprV ok w (.node k a v [t1]) (.agg #[.int .i64 k, .int .i64 a, .int .i64 v, .slice (some ⟨g, 0, none⟩) 1 cap]) := by
  unfold ExprV
  refine ⟨_, cap, rfl, ?_⟩
  unfold KidsV
  refine ⟨⟨_, _, _, _, _, rfl, hg, hB.cell 0, hB.cell 1, hB.cell 2, hB.cell 3, h1⟩, by unfold KidsV; trivial⟩
theorem ExprV.two {ok : Nat → Prop} {w : World} {t1 t2 : Tree} {a0 a1 a2 a3 b0 b1 b2 b3 : Value} {g : Nat} {T : TypeId} (h1 : ExprV ok w t1 (.agg #[a0, a1, a2, a3])) (h2 : ExprV ok w t2 (.agg #[b0, b1, b2, b3])) (hg : ok g)
    (hB : Blk w g T #[a0, a1, a2, a3, b0, b1, b2, b3]) (k a v : Int) (cap : Nat) :
    ExprV ok w (.node k a v [t1, t2]) (.agg #[.int .i64 k, .int .i64 a, .int .i64 v, .slice (some ⟨g, 0, none⟩) 2 cap]) := by
  unfold ExprV
  refine ⟨_, cap, rfl, ?_⟩
  unfold KidsV
  refine ⟨⟨_, _, _, _, _, rfl, hg, hB.cell 0, hB.cell 1, hB.cell 2, hB.cell 3, h1⟩, ?_⟩
  unfold KidsV
  refine ⟨⟨_, _, _, _, _, rfl, hg, hB.cell 4, hB.cell 5, hB.cell 6, hB.cell 7, h2⟩, by unfold KidsV; trivial⟩
/-- A formula that lies in a block is what the function returns. -/
theorem ret_expr {fn : Func} {R : Ending → World → Prop} {a : Act} {w : World} {p : Tmp} (hr : fn.results = #[.cell p 36]) (g : Nat) (c0 c1 c2 c3 : Value)
    (hp : a.tmps.getD p undef = .pointer (some ⟨g, 0, none⟩)) (hd : a.defers = []) (hg : Blk w g 36 #[c0, c1, c2, c3]) (hR : R (.returned (.agg #[c0, c1, c2, c3])) w) : bodyPost Try.prog fn R .ret a w :=
  bodyPost_ret (results_cell_row hr _ _ g 36 #[c0, c1, c2, c3] (0, 0) _ hp hg Try.underlying36 rfl (by kernel_rfl)) hd hR

theorem heap_put4 {w : World} {g k : Nat} (hk : k ≠ g) (x y z u : Value) :
    ((((w.setCell ⟨g, 0, none⟩ x).setCell ⟨g, 1, none⟩ y).setCell ⟨g, 2, none⟩ z).setCell ⟨g, 3, none⟩ u).heap[k]? = w.heap[k]? := by
  rw [Below.heap_setCell _ _ _ _ hk, Below.heap_setCell _ _ _ _ hk, Below.heap_setCell _ _ _ _ hk, Below.heap_setCell _ _ _ _ hk]
theorem grown_fresh4 {a w : World} {row : Option Nat} {g : Nat} (h : a.grownBy w row) (hg : a.heap.size ≤ g) (x y z u : Value) :
    a.grownBy ((((w.setCell ⟨g, 0, none⟩ x).setCell ⟨g, 1, none⟩ y).setCell ⟨g, 2, none⟩ z).setCell ⟨g, 3, none⟩ u) row :=
  ⟨h.os, h.tape, h.output, by simpa [World.setCell] using h.size, fun i hi hne => (heap_put4 (by omega) x y z u).trans (h.block i hi hne)⟩
theorem PM.put4 {w : World} {b : Nat} {s : Bs} {p : PS} {g : Nat} (h : PM w b s p) (hg : b ≠ g) (x y z u : Value) :
    PM ((((w.setCell ⟨g, 0, none⟩ x).setCell ⟨g, 1, none⟩ y).setCell ⟨g, 2, none⟩ z).setCell ⟨g, 3, none⟩ u) b s p := ⟨(heap_put4 hg x y z u).trans h.blk, h.lex⟩
theorem ExprV.put4 {ok : Nat → Prop} {w : World} {t : Tree} {v : Value} {g : Nat} (h : ExprV ok w t v) (hg : ¬ ok g) (x y z u : Value) :
    ExprV ok ((((w.setCell ⟨g, 0, none⟩ x).setCell ⟨g, 1, none⟩ y).setCell ⟨g, 2, none⟩ z).setCell ⟨g, 3, none⟩ u) t v :=
  (((h.setCell (p := ⟨g, 0, none⟩) hg x).setCell (p := ⟨g, 1, none⟩) hg y).setCell (p := ⟨g, 2, none⟩) hg z).setCell (p := ⟨g, 3, none⟩) hg u
theorem Blk.other4 {w : World} {g k : Nat} {t : TypeId} {cs : Array Value} (h : Blk w k t cs) (hk : k ≠ g) (x y z u : Value) :
    Blk ((((w.setCell ⟨g, 0, none⟩ x).setCell ⟨g, 1, none⟩ y).setCell ⟨g, 2, none⟩ z).setCell ⟨g, 3, none⟩ u) k t cs := (heap_put4 hk x y z u).trans h
/-- What a reader's function must do. -/
def Does (f : FuncId) (R : Rd) (s : Bs) (d : Nat) : Prop :=
  ∀ (w : World) (b : Nat) (p : PS), PM w b s p → p.depth = d → Calls Try.prog f #[.pointer (some ⟨b, 0, none⟩)] w fun e' w' =>
    ∃ x, e' = .returned x ∧ ExprV (fun g => w.heap.size ≤ g) w' (R p).1 x ∧ w.grownBy w' (some b) ∧ PM w' b s (R p).2
end Go.Proofs.Ytmjpecjciibngaa
