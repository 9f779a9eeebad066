/- The package truth: exists, forall. -/
import Derived.Test.YtmjpecjciibngaaBTru
import Derived.Deep.RegionWith
namespace Go.Proofs.Ytmjpecjciibngaa
open Go.RowKit
set_option linter.unusedVariables false
/-- Both halves joined, of each variable below k that the mask has. -/
def halvesTo (jn : Bool → Bool → Bool) (m : Nat) (f : Nat → Bool) : Nat → Nat → Bool
  | 0 => f
  | k + 1 => if m.testBit k then (fun x => jn (fixF (halvesTo jn m f k) k false x) (fixF (halvesTo jn m f k) k true x)) else halvesTo jn m f k
theorem halvesTo_no (jn : Bool → Bool → Bool) (m : Nat) (f : Nat → Bool) (k : Nat) (h : m.testBit k = false) : halvesTo jn m f (k + 1) = halvesTo jn m f k := by simp [halvesTo, h]
theorem halvesTo_yes (jn : Bool → Bool → Bool) (m : Nat) (f : Nat → Bool) (k : Nat) (h : m.testBit k = true) :
    halvesTo jn m f (k + 1) = fun x => jn (fixF (halvesTo jn m f k) k false x) (fixF (halvesTo jn m f k) k true x) := by simp [halvesTo, h]

set_option maxRecDepth 100000 in
set_option maxHeartbeats 2000000 in
theorem halves_or (f : Nat → Bool) (m : Nat) (hm : m < 256) (w : World) : Calls Try.prog 72 #[tabV f, .int .u8 (m : Int), .func (.func 70) #[] #[]] w fun e w' => e = .returned (tabV (halvesTo or m f 8)) ∧ Below w.heap.size w w' := by
  unfold tabV tabCells
  go_enter Try.func72, Try.ntmps72
  go_wp2_with fail
  go_loopw [8] (fun i wr => ∃ k : Nat, k ≤ 8 ∧ i = .int .i64 k ∧ Below w.heap.size w wr ∧ w.heap.size + 1 < wr.heap.size ∧ Blk wr w.heap.size 29 (tabCells (halvesTo or m f k)) ∧ Blk wr (w.heap.size + 1) 29 zeroTab) (fun i _ => 8 - (intOf i).toNat)
  case atStart =>
    exact ⟨0, by omega, rfl, below2 _ _ _, by simp, (Blk.new w _ _).alloc _, Blk.new1 w _ _ _⟩
  case round =>
    obtain ⟨k, hk, rfl, hb, hsz, hF, hZ⟩ := hrel
    by_cases hlt : k < 8
    · have hbit := shr_and_u8 m k hm (by omega)
      have hk0 : (0 : Int) ≤ (k : Int) := by omega
      have hk8 : (k : Int) < 8 := by omega
      cases hmk : m.testBit k
      · rw [hmk] at hbit
        have HM := Lib.hid hmk; clear hmk
        have HF := Lib.hid hF; clear hF
        have HZ := Lib.hid hZ; clear hZ
        go_wp2_with fail
        clear hbit
        go_roundw
        case rel => exact ⟨k + 1, by omega, by go_num, hb, hsz, by rw [halvesTo_no _ m f k HM.out]; exact HF.out, HZ.out⟩
        case measure => simp [intOf]; omega
      · rw [hmk] at hbit
        have HM := Lib.hid hmk; clear hmk
        obtain ⟨⟨a0, a1, a2, a3⟩, e0, e1, e2, e3⟩ := Blk.four hF
        have HF := Lib.hid hF; clear hF
        have HZ := Lib.hid hZ; clear hZ
        clear e0 e1 e2 e3
        go_wp2_with fail
        clear hbit
        go_region_with (first
          | (go_at_call 81; (with_reducible refine (tfix_any (halvesTo or m f k) k hlt false _).mono ?_); rintro e w1 ⟨rfl, hb1⟩;
             obtain ⟨⟨a0, a1, a2, a3⟩, _, _, _, _⟩ := Blk.four (HF.out.keep hb1.of_drew))
          | (go_at_call 81; (with_reducible refine (tfix_any (halvesTo or m f k) k hlt true _).mono ?_); rintro e w2 ⟨rfl, hb2⟩)
          | (go_at_call 70; (with_reducible refine (tor_any (fixF (halvesTo or m f k) k false) (fixF (halvesTo or m f k) k true) _).mono ?_); rintro e w3 ⟨rfl, hb3⟩;
             have hB3 := (hb1.of_drew.step hb2).step hb3; have R3 := HF.out.keep hB3; obtain ⟨⟨c0, c1, c2, c3⟩, f0, f1, f2, f3⟩ := R3.four; have HR := Lib.hid R3; clear R3; unfold tabV tabCells))
        all_goals
          go_wp2_with fail
          go_roundw
          case rel =>
            refine ⟨k + 1, by omega, by go_num, ((hb.step hB3).put4 (Nat.le_refl _) _ _ _ _), by have := hB3.size; simp; omega, ?_, ?_⟩
            · rw [halvesTo_yes _ m f k HM.out]
              exact HR.out.put4 _ _ _ _
            · exact ((((HZ.out.keep hB3).far (p := ⟨w.heap.size, 0, none⟩) (by simp) _).far (p := ⟨w.heap.size, 1, none⟩) (by simp) _).far (p := ⟨w.heap.size, 2, none⟩) (by simp) _).far (p := ⟨w.heap.size, 3, none⟩) (by simp) _
          case measure => simp [intOf]; omega
    · obtain rfl : k = 8 := by omega
      obtain ⟨⟨a0, a1, a2, a3⟩, f0, f1, f2, f3⟩ := Blk.four hF
      obtain ⟨⟨c0, c1, c2, c3⟩, g0, g1, g2, g3⟩ := Blk.four hZ
      have HF := Lib.hid hF; clear hF
      have HZ := Lib.hid hZ; clear hZ
      go_wp2_with fail
      exact ret_tab rfl _ _ rfl rfl (HZ.out.put4 _ _ _ _) ⟨rfl, hb.put4 (by omega) _ _ _ _⟩

set_option maxRecDepth 100000 in
set_option maxHeartbeats 2000000 in
theorem halves_and (f : Nat → Bool) (m : Nat) (hm : m < 256) (w : World) : Calls Try.prog 72 #[tabV f, .int .u8 (m : Int), .func (.func 71) #[] #[]] w fun e w' => e = .returned (tabV (halvesTo and m f 8)) ∧ Below w.heap.size w w' := by
  unfold tabV tabCells
  go_enter Try.func72, Try.ntmps72
  go_wp2_with fail
  go_loopw [8] (fun i wr => ∃ k : Nat, k ≤ 8 ∧ i = .int .i64 k ∧ Below w.heap.size w wr ∧ w.heap.size + 1 < wr.heap.size ∧ Blk wr w.heap.size 29 (tabCells (halvesTo and m f k)) ∧ Blk wr (w.heap.size + 1) 29 zeroTab) (fun i _ => 8 - (intOf i).toNat)
  case atStart =>
    exact ⟨0, by omega, rfl, below2 _ _ _, by simp, (Blk.new w _ _).alloc _, Blk.new1 w _ _ _⟩
  case round =>
    obtain ⟨k, hk, rfl, hb, hsz, hF, hZ⟩ := hrel
    by_cases hlt : k < 8
    · have hbit := shr_and_u8 m k hm (by omega)
      have hk0 : (0 : Int) ≤ (k : Int) := by omega
      have hk8 : (k : Int) < 8 := by omega
      cases hmk : m.testBit k
      · rw [hmk] at hbit
        have HM := Lib.hid hmk; clear hmk
        have HF := Lib.hid hF; clear hF
        have HZ := Lib.hid hZ; clear hZ
        go_wp2_with fail
        clear hbit
        go_roundw
        case rel => exact ⟨k + 1, by omega, by go_num, hb, hsz, by rw [halvesTo_no _ m f k HM.out]; exact HF.out, HZ.out⟩
        case measure => simp [intOf]; omega
      · rw [hmk] at hbit
        have HM := Lib.hid hmk; clear hmk
        obtain ⟨⟨a0, a1, a2, a3⟩, e0, e1, e2, e3⟩ := Blk.four hF
        have HF := Lib.hid hF; clear hF
        have HZ := Lib.hid hZ; clear hZ
        clear e0 e1 e2 e3
        go_wp2_with fail
        clear hbit
        go_region_with (first
          | (go_at_call 81; (with_reducible refine (tfix_any (halvesTo and m f k) k hlt false _).mono ?_); rintro e w1 ⟨rfl, hb1⟩;
             obtain ⟨⟨a0, a1, a2, a3⟩, _, _, _, _⟩ := Blk.four (HF.out.keep hb1.of_drew))
          | (go_at_call 81; (with_reducible refine (tfix_any (halvesTo and m f k) k hlt true _).mono ?_); rintro e w2 ⟨rfl, hb2⟩)
          | (go_at_call 71; (with_reducible refine (tand_any (fixF (halvesTo and m f k) k false) (fixF (halvesTo and m f k) k true) _).mono ?_); rintro e w3 ⟨rfl, hb3⟩;
             have hB3 := (hb1.of_drew.step hb2).step hb3; have R3 := HF.out.keep hB3; obtain ⟨⟨c0, c1, c2, c3⟩, f0, f1, f2, f3⟩ := R3.four; have HR := Lib.hid R3; clear R3; unfold tabV tabCells))
        all_goals
          go_wp2_with fail
          go_roundw
          case rel =>
            refine ⟨k + 1, by omega, by go_num, ((hb.step hB3).put4 (Nat.le_refl _) _ _ _ _), by have := hB3.size; simp; omega, ?_, ?_⟩
            · rw [halvesTo_yes _ m f k HM.out]
              exact HR.out.put4 _ _ _ _
            · exact ((((HZ.out.keep hB3).far (p := ⟨w.heap.size, 0, none⟩) (by simp) _).far (p := ⟨w.heap.size, 1, none⟩) (by simp) _).far (p := ⟨w.heap.size, 2, none⟩) (by simp) _).far (p := ⟨w.heap.size, 3, none⟩) (by simp) _
          case measure => simp [intOf]; omega
    · obtain rfl : k = 8 := by omega
      obtain ⟨⟨a0, a1, a2, a3⟩, f0, f1, f2, f3⟩ := Blk.four hF
      obtain ⟨⟨c0, c1, c2, c3⟩, g0, g1, g2, g3⟩ := Blk.four hZ
      have HF := Lib.hid hF; clear hF
      have HZ := Lib.hid hZ; clear hZ
      go_wp2_with fail
      exact ret_tab rfl _ _ rfl rfl (HZ.out.put4 _ _ _ _) ⟨rfl, hb.put4 (by omega) _ _ _ _⟩

theorem tforall_any (f : Nat → Bool) (m : Nat) (hm : m < 256) (w : World) : Calls Try.prog 49 #[tabV f, .int .u8 (m : Int)] w fun e w' => e = .returned (tabV (halvesTo and m f 8)) ∧ Below w.heap.size w w' := by
  unfold tabV tabCells
  go_enter Try.func49, Try.ntmps49
  go_wp2_with fail
  refine (halves_and f m hm _).mono ?_
  rintro e w2 ⟨rfl, hb2⟩
  have R2 := (Blk.new1 w _ _ _).keep hb2
  obtain ⟨⟨c0, c1, c2, c3⟩, f0, f1, f2, f3⟩ := R2.four
  have HR := Lib.hid R2; clear R2
  unfold tabV tabCells
  go_wp2_with fail
  exact ret_tab rfl _ _ rfl rfl (HR.out.put4 _ _ _ _) ⟨rfl, ((below2 w _ _).step hb2).put4 (by omega) _ _ _ _⟩

theorem texists_any (f : Nat → Bool) (m : Nat) (hm : m < 256) (w : World) : Calls Try.prog 50 #[tabV f, .int .u8 (m : Int)] w fun e w' => e = .returned (tabV (halvesTo or m f 8)) ∧ Below w.heap.size w w' := by
  unfold tabV tabCells
  go_enter Try.func50, Try.ntmps50
  go_wp2_with fail
  refine (halves_or f m hm _).mono ?_
  rintro e w2 ⟨rfl, hb2⟩
  have R2 := (Blk.new1 w _ _ _).keep hb2
  obtain ⟨⟨c0, c1, c2, c3⟩, f0, f1, f2, f3⟩ := R2.four
  have HR := Lib.hid R2; clear R2
  unfold tabV tabCells
  go_wp2_with fail
  exact ret_tab rfl _ _ rfl rfl (HR.out.put4 _ _ _ _) ⟨rfl, ((below2 w _ _).step hb2).put4 (by omega) _ _ _ _⟩
end Go.Proofs.Ytmjpecjciibngaa
