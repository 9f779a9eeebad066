/- The reference's Ite, Exists, Forall. -/
import Derived.Test.YtmjpecjciibngaaBRfc
import Derived.Deep.RegionHeld3
namespace Go.Proofs.Ytmjpecjciibngaa
open Go.RowKit
set_option linter.unusedVariables false

set_option maxRecDepth 100000 in
set_option maxHeartbeats 4000000 in
theorem rite_any (f g h : Nat → Bool) (w : World) : Calls Try.prog 39 #[tabV f, tabV g, tabV h] w fun e w' => e = .returned (tabV fun x => (f x && g x) || (!f x && h x)) ∧ Below w.heap.size w w' := by
  unfold tabV tabCells
  go_enter Try.func39, Try.ntmps39
  go_wp2_with fail
  obtain ⟨W, hW⟩ : ∃ W : World, W = (((w.alloc (.cells (tabCells f) 29)).alloc (.cells (tabCells g) 29)).alloc (.cells (tabCells h) 29)).alloc (.cells zeroTab 29) := ⟨_, rfl⟩
  have hB : Below w.heap.size w W := hW ▸ below4 w _ _ _ _
  have hsz : w.heap.size + 3 < W.heap.size := by rw [hW]; simp
  obtain ⟨⟨a0, a1, a2, a3⟩, _, _, _, _⟩ := Blk.four (show Blk W w.heap.size 29 (tabCells f) from hW ▸ ((((Blk.new w _ _).alloc _).alloc _).alloc _))
  obtain ⟨⟨b0, b1, b2, b3⟩, _, _, _, _⟩ := Blk.four (show Blk W (w.heap.size + 1) 29 (tabCells g) from hW ▸ (((Blk.new1 w _ _ _).alloc _).alloc _))
  obtain ⟨⟨d0, d1, d2, d3⟩, _, _, _, _⟩ := Blk.four (show Blk W (w.heap.size + 1 + 1) 29 (tabCells h) from hW ▸ ((Blk.new2 w _ _ _ _).alloc _))
  have HZ := Lib.hid (show Blk W (w.heap.size + 1 + 1 + 1) 29 zeroTab from hW ▸ (Blk.new3 w _ _ _ _ _))
  unfold tabCells zeroTab at hW
  rw [← hW]
  clear hW
  go_region_held3 (fun w' => ∀ p : Addr, p.block < w.heap.size + 3 → w'.cell? p = W.cell? p)
    (first
      | with_reducible exact fun p hp => hb1.of_drew.cell (by omega)
      | with_reducible exact fun p hp => hB2.cell (by omega)
      | with_reducible exact fun p hp => hB3.cell (by omega)
      | with_reducible exact fun p hp => hB4.cell (by omega)
      | (intro p hp; rw [cell_put4 (by omega)]; exact hB4.cell (by omega))
      | exact fun _ _ => rfl)
    (first
      | (go_at_call 25; (with_reducible refine (ror_any (fun x => f x && g x) (fun x => !f x && h x) _).mono ?_); rintro e w4 ⟨rfl, hb4⟩;
         have hB4 := hB3.step hb4; have R4 := HZ.out.keep hB4; obtain ⟨⟨c0, c1, c2, c3⟩, f0, f1, f2, f3⟩ := R4.four; have HR := Lib.hid R4; clear R4; unfold tabV tabCells)
      | (go_at_call 26; (with_reducible refine (rnot_any f _).mono ?_); rintro e w2 ⟨rfl, hb2⟩; have hB2 := hb1.of_drew.step hb2)
      | (go_at_call 27; (with_reducible refine (rand_any (fun x => !f x) h _).mono ?_); rintro e w3 ⟨rfl, hb3⟩; have hB3 := hB2.step hb3)
      | (go_at_call 27; (with_reducible refine (rand_any f g _).mono ?_); rintro e w1 ⟨rfl, hb1⟩))
  go_wp2_with fail
  exact ret_tab rfl _ _ rfl rfl (HR.out.put4 _ _ _ _) ⟨rfl, (hB.step hB4).put4 (by omega) _ _ _ _⟩

set_option maxRecDepth 100000 in
set_option maxHeartbeats 4000000 in
theorem rexists_any (f : Nat → Bool) (m : Nat) (hm : m < 256) (w : World) : Calls Try.prog 41 #[tabV f, .int .u8 (m : Int)] w fun e w' => e = .returned (tabV (halvesTo or m f 8)) ∧ Below w.heap.size w w' := by
  unfold tabV tabCells
  go_enter Try.func41, Try.ntmps41
  go_wp2_with fail
  go_loopw [5] (fun i wr => ∃ k : Nat, k ≤ 8 ∧ i = .int .i64 k ∧ Below w.heap.size w wr ∧ w.heap.size + 1 < wr.heap.size ∧ Blk wr w.heap.size 29 (tabCells (halvesTo or m f k)) ∧ Blk wr (w.heap.size + 1) 29 zeroTab) (fun i _ => 8 - (intOf i).toNat)
  case atStart => exact ⟨0, by omega, rfl, below2 _ _ _, by simp, (Blk.new w _ _).alloc _, Blk.new1 w _ _ _⟩
  case round =>
    obtain ⟨k, hk, rfl, hb, hsz, hF, hZ⟩ := hrel
    by_cases hlt : k < 8
    · have hbit := shr_and_u8 m k hm (by omega)
      have hk0 : (0 : Int) ≤ (k : Int) := by omega
      have hk8 : (k : Int) < 8 := by omega
      cases hmk : m.testBit k
      · rw [hmk] at hbit
        have HM := Lib.hid hmk; clear hmk
        have HF := Lib.hid hF; clear hF
        have HZ := Lib.hid hZ; clear hZ
        go_wp2_with fail
        go_roundw
        case rel => exact ⟨k + 1, by omega, by go_num, hb, hsz, by rw [halvesTo_no _ m f k HM.out]; exact HF.out, HZ.out⟩
        case measure => simp [intOf]; omega
      · rw [hmk] at hbit
        have HM := Lib.hid hmk; clear hmk
        obtain ⟨⟨a0, a1, a2, a3⟩, e0, e1, e2, e3⟩ := Blk.four hF
        have HF := Lib.hid hF; clear hF
        have HZ := Lib.hid hZ; clear hZ
        clear e0 e1 e2 e3
        go_wp2_with fail
        clear hbit
        go_region_with (first
          | (go_at_call 56; (with_reducible refine (rfix_any (halvesTo or m f k) k hlt false _).mono ?_); rintro e w1 ⟨rfl, hb1⟩;
             obtain ⟨⟨a0, a1, a2, a3⟩, _, _, _, _⟩ := Blk.four (HF.out.keep hb1.of_drew))
          | (go_at_call 56; (with_reducible refine (rfix_any (halvesTo or m f k) k hlt true _).mono ?_); rintro e w2 ⟨rfl, hb2⟩)
          | (go_at_call 25; (with_reducible refine (ror_any (fixF (halvesTo or m f k) k false) (fixF (halvesTo or m f k) k true) _).mono ?_); rintro e w3 ⟨rfl, hb3⟩;
             have hB3 := (hb1.of_drew.step hb2).step hb3; have R3 := HF.out.keep hB3; obtain ⟨⟨c0, c1, c2, c3⟩, f0, f1, f2, f3⟩ := R3.four; have HR := Lib.hid R3; clear R3; unfold tabV tabCells))
        all_goals
          go_wp2_with fail
          go_roundw
          case rel =>
            refine ⟨k + 1, by omega, by go_num, ((hb.step hB3).put4 (Nat.le_refl _) _ _ _ _), by have := hB3.size; simp; omega, ?_, ?_⟩
            · rw [halvesTo_yes _ m f k HM.out]
              exact HR.out.put4 _ _ _ _
            · exact ((((HZ.out.keep hB3).far (p := ⟨w.heap.size, 0, none⟩) (by simp) _).far (p := ⟨w.heap.size, 1, none⟩) (by simp) _).far (p := ⟨w.heap.size, 2, none⟩) (by simp) _).far (p := ⟨w.heap.size, 3, none⟩) (by simp) _
          case measure => simp [intOf]; omega
    · obtain rfl : k = 8 := by omega
      obtain ⟨⟨a0, a1, a2, a3⟩, f0, f1, f2, f3⟩ := Blk.four hF
      obtain ⟨⟨c0, c1, c2, c3⟩, g0, g1, g2, g3⟩ := Blk.four hZ
      have HF := Lib.hid hF; clear hF
      have HZ := Lib.hid hZ; clear hZ
      go_wp2_with fail
      exact ret_tab rfl _ _ rfl rfl (HZ.out.put4 _ _ _ _) ⟨rfl, hb.put4 (by omega) _ _ _ _⟩
theorem halves_dual (m : Nat) (f : Nat → Bool) : ∀ k x, (!halvesTo or m (fun y => !f y) k x) = halvesTo and m f k x
  | 0, x => by simp [halvesTo]
  | k + 1, x => by
    cases h : m.testBit k
    · rw [halvesTo_no _ _ _ _ h, halvesTo_no _ _ _ _ h, halves_dual m f k x]
    · rw [halvesTo_yes _ _ _ _ h, halvesTo_yes _ _ _ _ h]
      simp only [fixF, Bool.not_or, halves_dual m f k]
set_option maxRecDepth 100000 in
set_option maxHeartbeats 4000000 in
theorem rforall_any (f : Nat → Bool) (m : Nat) (hm : m < 256) (w : World) : Calls Try.prog 40 #[tabV f, .int .u8 (m : Int)] w fun e w' => e = .returned (tabV (halvesTo and m f 8)) ∧ Below w.heap.size w w' := by
  rw [show halvesTo and m f 8 = fun x => !halvesTo or m (fun y => !f y) 8 x from funext fun x => (halves_dual m f 8 x).symm]
  unfold tabV tabCells
  go_enter Try.func40, Try.ntmps40
  go_wp2_with fail
  refine (rnot_any f _).mono ?_
  rintro e w1 ⟨rfl, hb1⟩
  go_wp2_with fail
  refine (rexists_any (fun x => !f x) m hm _).mono ?_
  rintro e w2 ⟨rfl, hb2⟩
  go_wp2_with fail
  refine (rnot_any (halvesTo or m (fun x => !f x) 8) _).mono ?_
  rintro e w3 ⟨rfl, hb3⟩
  have R := ((Blk.new1 w (.cells (tabCells f) 29) 29 zeroTab).keep hb1).keep hb2
  have R3 := R.keep hb3
  obtain ⟨⟨c0, c1, c2, c3⟩, f0, f1, f2, f3⟩ := R3.four
  have HR := Lib.hid R3
  have hB := (((below2 w (.cells (tabCells f) 29) (.cells zeroTab 29)).step hb1).step hb2).step hb3
  clear R R3
  unfold tabV tabCells
  go_wp2_with fail
  exact ret_tab rfl _ _ rfl rfl (HR.out.put4 _ _ _ _) ⟨rfl, hB.put4 (by omega) _ _ _ _⟩
end Go.Proofs.Ytmjpecjciibngaa
