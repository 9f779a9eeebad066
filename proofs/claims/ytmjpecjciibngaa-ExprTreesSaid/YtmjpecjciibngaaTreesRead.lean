/- A reading of an api.Expr (no ring) is a tree. -/
import Derived.Test.YtmjpecjciibngaaRows
import Derived.WalkKit
import Derived.ProofKit
import Derived.OpenShut
import Derived.Lib.SmallJoins
import Derived.Test.YtmjpecjciibngaaBLex
namespace Go.Proofs.Ytmjpecjciibngaa
open Go.ChangeShapes Go.WideShapes Go.ChangeAt Go.RowKit
set_option linter.unusedVariables false
variable {H : Type} {enc : TypeId × Value → H} {w : World} {spare : Nat → Bool} {held : Bool}

theorem kids_mk {ok : Nat → Prop} {w : World} (ad : Addr) (hok : ok ad.block) : ∀ (n i : Nat), (∀ j, i ≤ j → j < i + n → ∃ t c0 c1 c2 c3, w.cell? (ad.add (j * 4)) = some c0 ∧ w.cell? (ad.add (j * 4 + 1)) = some c1 ∧ w.cell? (ad.add (j * 4 + 2)) = some c2 ∧ w.cell? (ad.add (j * 4 + 3)) = some c3 ∧ ExprV ok w t (.agg #[c0, c1, c2, c3])) →
    ∃ ts : List Tree, ts.length = n ∧ KidsV ok w ts (some ad) i
  | 0, i, _ => ⟨[], rfl, by unfold KidsV; trivial⟩
  | n + 1, i, h => by
    obtain ⟨ts, hl, hk⟩ := kids_mk ad hok n (i + 1) fun j h1 h2 => h j (by omega) (by omega)
    obtain ⟨t, c0, c1, c2, c3, e0, e1, e2, e3, hE⟩ := h i (Nat.le_refl _) (by omega)
    refine ⟨t :: ts, by simp [hl], ?_⟩
    unfold KidsV
    exact ⟨⟨ad, c0, c1, c2, c3, rfl, hok, e0, e1, e2, e3, hE⟩, hk⟩

theorem four_of {α : Type} (l : List α) (h : l.length = 4) : ∃ a b c d, l = [a, b, c, d] := by
  match l, h with
  | [a, b, c, d], _ => exact ⟨a, b, c, d, rfl⟩

theorem cells_expr : Try.prog.cellsOf 36 = 4 := by kernel_rfl
theorem cells_int : Try.prog.cellsOf 3 = 1 := by kernel_rfl
theorem cells_kids : Try.prog.cellsOf 34 = 1 := by kernel_rfl

set_option maxRecDepth 100000 in
theorem tree_of_trod (fuel : Nat) : ∀ (cs : List Value) (x : DataW H × List MemPlace), DataW.trod enc Try.prog w 0 spare held fuel 36 cs = some x → ∃ t, ExprV (fun g => g < w.heap.size) w t (.agg cs.toArray) := by
  induction fuel using Nat.strongRecOn with
  | ind fuel IH =>
    intro cs x h
    obtain ⟨xs, n, hf, hx, hl, hxl, hfs⟩ := DataW.trod_struct Try.underlying36 h
    rw [cells_expr] at hl
    obtain ⟨c0, c1, c2, c3, rfl⟩ := four_of cs hl
    obtain ⟨y0, y1, y2, y3, rfl⟩ := four_of xs hxl
    have h0 : DataW.trod enc Try.prog w 0 spare held n 3 (([c0, c1, c2, c3].drop 0).take (Try.prog.cellsOf 3)) = some y0 := hfs 0 _ rfl
    rw [cells_int] at h0
    have h1 : DataW.trod enc Try.prog w 0 spare held n 3 (([c0, c1, c2, c3].drop 1).take (Try.prog.cellsOf 3)) = some y1 := hfs 1 _ rfl
    rw [cells_int] at h1
    have h2 : DataW.trod enc Try.prog w 0 spare held n 3 (([c0, c1, c2, c3].drop 2).take (Try.prog.cellsOf 3)) = some y2 := hfs 2 _ rfl
    rw [cells_int] at h2
    have h3 : DataW.trod enc Try.prog w 0 spare held n 34 (([c0, c1, c2, c3].drop 3).take (Try.prog.cellsOf 34)) = some y3 := hfs 3 _ rfl
    rw [cells_kids] at h3
    obtain ⟨k, e0, _, _⟩ := DataW.trod_int (x := y0) Try.underlying3 h0
    obtain ⟨a, e1, _, _⟩ := DataW.trod_int (x := y1) Try.underlying3 h1
    obtain ⟨v, e2, _, _⟩ := DataW.trod_int (x := y2) Try.underlying3 h2
    obtain rfl : c0 = .int .i64 k := by simpa using e0
    obtain rfl : c1 = .int .i64 a := by simpa using e1
    obtain rfl : c2 = .int .i64 v := by simpa using e2
    rcases DataW.trod_slice (x := y3) Try.underlying34 h3 with ⟨e3, _⟩ | ⟨ad, len, cap, elems, rest, m, hm, e3, _, _, _, _, hel, hes, _⟩
    · obtain rfl : c3 = .slice none 0 0 := by simpa using e3
      exact ⟨.node k a v [], by unfold ExprV; exact ⟨none, 0, rfl, by unfold KidsV; trivial⟩⟩
    · obtain rfl : c3 = .slice (some ad) len cap := by simpa using e3
      rw [cells_expr] at hes
      have hE : ∀ j, j < len → ∃ t c0 c1 c2 c3, ad.block < w.heap.size ∧ w.cell? (ad.add (j * 4)) = some c0 ∧ w.cell? (ad.add (j * 4 + 1)) = some c1 ∧ w.cell? (ad.add (j * 4 + 2)) = some c2 ∧ w.cell? (ad.add (j * 4 + 3)) = some c3 ∧ ExprV (fun g => g < w.heap.size) w t (.agg #[c0, c1, c2, c3]) := by
        intro j hj
        have hb := hes j hj
        rw [List.getElem?_eq_getElem (by omega)] at hb
        obtain ⟨cs', hc, ht⟩ := Option.bind_eq_some_iff.1 hb
        obtain ⟨t, ht⟩ := IH m (by omega) cs' _ ht
        obtain ⟨_, hlen, hget⟩ := World.cells?_some hc
        obtain ⟨c0, c1, c2, c3, rfl⟩ := four_of cs' hlen
        have g0 := hget 0 (by omega)
        have g1 := hget 1 (by omega)
        have g2 := hget 2 (by omega)
        have g3 := hget 3 (by omega)
        rw [Addr.add_add] at g0 g1 g2 g3
        refine ⟨t, c0, c1, c2, c3, ?_, g0, g1, g2, g3, ht⟩
        have := World.block_lt_of_cell? _ _ g0
        rwa [add_block] at this
      cases len with
      | zero => exact ⟨.node k a v [], by unfold ExprV; exact ⟨some ad, cap, rfl, by unfold KidsV; trivial⟩⟩
      | succ len =>
        obtain ⟨_, _, _, _, _, hlt, _⟩ := hE 0 (by omega)
        obtain ⟨ts, hts, hk⟩ := kids_mk (ok := fun g => g < w.heap.size) ad hlt (len + 1) 0 fun j _ hj => by
          obtain ⟨t, c0, c1, c2, c3, _, r⟩ := hE j (by omega)
          exact ⟨t, c0, c1, c2, c3, r⟩
        refine ⟨.node k a v ts, ?_⟩
        unfold ExprV
        exact ⟨some ad, cap, by rw [hts], hk⟩

theorem tree_in {v : Value} {d : DataW H} {ps : List MemPlace} {b0 : Nat} (hv : Value.okWide Try.prog w .any b0 36 v) (h : DataW.Trod enc Try.prog w 0 spare held 36 v d ps) : ∃ t, ExprV (fun g => g < w.heap.size) w t v := by
  obtain ⟨cs, rfl, _⟩ := okWide_struct Try.underlying36 hv
  obtain ⟨fuel, h⟩ := h
  obtain ⟨t, ht⟩ := tree_of_trod fuel _ _ h
  exact ⟨t, by simpa [Value.cells] using ht⟩
end Go.Proofs.Ytmjpecjciibngaa
