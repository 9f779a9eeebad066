/- The package truth: ite, exists, forall. -/
import Derived.Test.YtmjpecjciibngaaTruth4
namespace Go.Proofs.Ytmjpecjciibngaa
open Go.RowKit
set_option linter.unusedVariables false

set_option maxRecDepth 100000 in
set_option maxHeartbeats 4000000 in
theorem tite_any (f g h : Nat → Bool) (w : World) : Calls Try.prog 48 #[tabV f, tabV g, tabV h] w fun e w' => e = .returned (tabV fun x => (f x && g x) || (!f x && h x)) ∧ Below w.heap.size w w' := by
  unfold tabV tabCells
  go_enter Try.func48, Try.ntmps48
  go_wp2_with fail
  obtain ⟨W, hW⟩ : ∃ W : World, W = (((w.alloc (.cells (tabCells f) 29)).alloc (.cells (tabCells g) 29)).alloc (.cells (tabCells h) 29)).alloc (.cells zeroTab 29) := ⟨_, rfl⟩
  have hB : Below w.heap.size w W := hW ▸ below4 w _ _ _ _
  have hsz : w.heap.size + 3 < W.heap.size := by rw [hW]; simp
  obtain ⟨⟨a0, a1, a2, a3⟩, _, _, _, _⟩ := Blk.four (show Blk W w.heap.size 29 (tabCells f) from hW ▸ ((((Blk.new w _ _).alloc _).alloc _).alloc _))
  obtain ⟨⟨b0, b1, b2, b3⟩, _, _, _, _⟩ := Blk.four (show Blk W (w.heap.size + 1) 29 (tabCells g) from hW ▸ (((Blk.new1 w _ _ _).alloc _).alloc _))
  obtain ⟨⟨d0, d1, d2, d3⟩, _, _, _, _⟩ := Blk.four (show Blk W (w.heap.size + 1 + 1) 29 (tabCells h) from hW ▸ ((Blk.new2 w _ _ _ _).alloc _))
  have HZ := Lib.hid (show Blk W (w.heap.size + 1 + 1 + 1) 29 zeroTab from hW ▸ (Blk.new3 w _ _ _ _ _))
  unfold tabCells zeroTab at hW
  rw [← hW]
  clear hW
  go_region_held3 (fun w' => ∀ p : Addr, p.block < w.heap.size + 3 → w'.cell? p = W.cell? p)
    (first
      | with_reducible exact fun p hp => hb1.of_drew.cell (by omega)
      | with_reducible exact fun p hp => (hb1.of_drew.step hb2).cell (by omega)
      | with_reducible exact fun p hp => ((hb1.of_drew.step hb2).step hb3).cell (by omega)
      | with_reducible exact fun p hp => hB4.cell (by omega)
      | (intro p hp; rw [cell_put4 (by omega)]; exact hB4.cell (by omega))
      | exact fun _ _ => rfl)
    (first
      | (go_at_call 71; (with_reducible refine (tand_any f g _).mono ?_); rintro e w1 ⟨rfl, hb1⟩)
      | (go_at_call 71; (with_reducible refine (tand_any (fun x => !f x) h _).mono ?_); rintro e w3 ⟨rfl, hb3⟩)
      | (go_at_call 47; (with_reducible refine (tnot_any f _).mono ?_); rintro e w2 ⟨rfl, hb2⟩)
      | (go_at_call 70; (with_reducible refine (tor_any (fun x => f x && g x) (fun x => !f x && h x) _).mono ?_); rintro e w4 ⟨rfl, hb4⟩;
         have hB4 := ((hb1.of_drew.step hb2).step hb3).step hb4; have R4 := HZ.out.keep hB4; obtain ⟨⟨c0, c1, c2, c3⟩, f0, f1, f2, f3⟩ := R4.four; have HR := Lib.hid R4; clear R4; unfold tabV tabCells))
  go_wp2_with fail
  exact ret_tab rfl _ _ rfl rfl (HR.out.put4 _ _ _ _) ⟨rfl, (hB.step hB4).put4 (by omega) _ _ _ _⟩
end Go.Proofs.Ytmjpecjciibngaa
