/- The document's tables: not, and, or, xor, word by word. -/
import Derived.Test.YtmjpecjciibngaaBTru
namespace Go.Proofs.Ytmjpecjciibngaa
open Go.RowKit
set_option linter.unusedVariables false

set_option maxRecDepth 100000 in
set_option maxHeartbeats 1000000 in
theorem ror_any (f g : Nat → Bool) (w : World) : Calls Try.prog 25 #[tabV f, tabV g] w fun e w' => e = .returned (tabV fun x => f x || g x) ∧ Below w.heap.size w w' := by
  unfold tabV tabCells
  go_enter Try.func25, Try.ntmps25
  go_wp2_with fail
  go_loopw [5] (fun i wr => ∃ k : Nat, k ≤ 4 ∧ i = .int .i64 k ∧ Below w.heap.size w wr ∧ w.heap.size + 1 + 1 < wr.heap.size ∧ Blk wr w.heap.size 29 (wordCells (joinTo (fun a b => a ||| b) f g k)) ∧ Blk wr (w.heap.size + 1) 29 (tabCells g) ∧ Blk wr (w.heap.size + 1 + 1) 29 zeroTab) (fun i _ => 4 - (intOf i).toNat)
  case atStart =>
    refine ⟨0, by omega, rfl, below3 _ _ _ _, by simp, ?_, (Blk.new1 w _ _ _).alloc _, Blk.new2 w _ _ _ _⟩
    rw [joinTo_zero]
    exact ((Blk.new w _ _).alloc _).alloc _
  case round =>
    obtain ⟨k, hk, rfl, hb, hsz, hF, hG, hZ⟩ := hrel
    by_cases hlt : k < 4
    · have cf := (hF.cell k).trans (wordCells_get _ hlt)
      have cg := (hG.cell k).trans (tabCells_get g hlt)
      have ff := hF.free k
      simp only [joinTo, Nat.lt_irrefl, if_false] at cf
      have hv : bits .or .u64 ((wd f k : Nat) : Int) ((wd g k : Nat) : Int) = (((fun a b => a ||| b) (wd f k) (wd g k) : Nat) : Int) := bits_or_u64 _ _ (wd_lt _ _) (wd_lt _ _)
      have HF := Lib.hid hF; clear hF
      have HG := Lib.hid hG; clear hG
      have HZ := Lib.hid hZ; clear hZ
      have HV := Lib.hid hv; clear hv
      have hk0 : (0 : Int) ≤ (k : Int) := by omega
      have hk4 : (k : Int) < 4 := by omega
      go_wp2_with fail
      go_region
      go_wp2_with fail
      go_roundw
      case rel =>
        refine ⟨k + 1, by omega, by go_num, (hb.setCell (p := ⟨w.heap.size, k, none⟩) (by simp) _).drew, by simp; omega, ?_, (HG.out.far (p := ⟨w.heap.size, k, none⟩) (by simp) _).drew, (HZ.out.far (p := ⟨w.heap.size, k, none⟩) (by simp; try omega) _).drew⟩
        rw [← joinTo_set (fun a b => a ||| b) f g k hlt, ← HV.out]
        exact (HF.out.set _ _).drew
      case measure => simp [intOf]; omega
    · obtain rfl : k = 4 := by omega
      rw [joinTo_all (fun a b => a ||| b) f g (fun x => f x || g x) (fun i _ => wd_or f g i)] at hF
      obtain ⟨⟨a0, a1, a2, a3⟩, f0, f1, f2, f3⟩ := Blk.four hF
      obtain ⟨⟨c0, c1, c2, c3⟩, g0, g1, g2, g3⟩ := Blk.four hZ
      have HF := Lib.hid hF; clear hF
      have HG := Lib.hid hG; clear hG
      have HZ := Lib.hid hZ; clear hZ
      go_wp2_with fail
      exact ret_tab rfl _ _ rfl rfl (HZ.out.put4 _ _ _ _) ⟨rfl, hb.put4 (by omega) _ _ _ _⟩

set_option maxRecDepth 100000 in
set_option maxHeartbeats 1000000 in
theorem rand_any (f g : Nat → Bool) (w : World) : Calls Try.prog 27 #[tabV f, tabV g] w fun e w' => e = .returned (tabV fun x => f x && g x) ∧ Below w.heap.size w w' := by
  unfold tabV tabCells
  go_enter Try.func27, Try.ntmps27
  go_wp2_with fail
  go_loopw [5] (fun i wr => ∃ k : Nat, k ≤ 4 ∧ i = .int .i64 k ∧ Below w.heap.size w wr ∧ w.heap.size + 1 + 1 < wr.heap.size ∧ Blk wr w.heap.size 29 (wordCells (joinTo (fun a b => a &&& b) f g k)) ∧ Blk wr (w.heap.size + 1) 29 (tabCells g) ∧ Blk wr (w.heap.size + 1 + 1) 29 zeroTab) (fun i _ => 4 - (intOf i).toNat)
  case atStart =>
    refine ⟨0, by omega, rfl, below3 _ _ _ _, by simp, ?_, (Blk.new1 w _ _ _).alloc _, Blk.new2 w _ _ _ _⟩
    rw [joinTo_zero]
    exact ((Blk.new w _ _).alloc _).alloc _
  case round =>
    obtain ⟨k, hk, rfl, hb, hsz, hF, hG, hZ⟩ := hrel
    by_cases hlt : k < 4
    · have cf := (hF.cell k).trans (wordCells_get _ hlt)
      have cg := (hG.cell k).trans (tabCells_get g hlt)
      have ff := hF.free k
      simp only [joinTo, Nat.lt_irrefl, if_false] at cf
      have hv : bits .and .u64 ((wd f k : Nat) : Int) ((wd g k : Nat) : Int) = (((fun a b => a &&& b) (wd f k) (wd g k) : Nat) : Int) := bits_and_u64 _ _ (wd_lt _ _) (wd_lt _ _)
      have HF := Lib.hid hF; clear hF
      have HG := Lib.hid hG; clear hG
      have HZ := Lib.hid hZ; clear hZ
      have HV := Lib.hid hv; clear hv
      have hk0 : (0 : Int) ≤ (k : Int) := by omega
      have hk4 : (k : Int) < 4 := by omega
      go_wp2_with fail
      go_region
      go_wp2_with fail
      go_roundw
      case rel =>
        refine ⟨k + 1, by omega, by go_num, (hb.setCell (p := ⟨w.heap.size, k, none⟩) (by simp) _).drew, by simp; omega, ?_, (HG.out.far (p := ⟨w.heap.size, k, none⟩) (by simp) _).drew, (HZ.out.far (p := ⟨w.heap.size, k, none⟩) (by simp; try omega) _).drew⟩
        rw [← joinTo_set (fun a b => a &&& b) f g k hlt, ← HV.out]
        exact (HF.out.set _ _).drew
      case measure => simp [intOf]; omega
    · obtain rfl : k = 4 := by omega
      rw [joinTo_all (fun a b => a &&& b) f g (fun x => f x && g x) (fun i _ => wd_and f g i)] at hF
      obtain ⟨⟨a0, a1, a2, a3⟩, f0, f1, f2, f3⟩ := Blk.four hF
      obtain ⟨⟨c0, c1, c2, c3⟩, g0, g1, g2, g3⟩ := Blk.four hZ
      have HF := Lib.hid hF; clear hF
      have HG := Lib.hid hG; clear hG
      have HZ := Lib.hid hZ; clear hZ
      go_wp2_with fail
      exact ret_tab rfl _ _ rfl rfl (HZ.out.put4 _ _ _ _) ⟨rfl, hb.put4 (by omega) _ _ _ _⟩

set_option maxRecDepth 100000 in
set_option maxHeartbeats 1000000 in
theorem rxor_any (f g : Nat → Bool) (w : World) : Calls Try.prog 29 #[tabV f, tabV g] w fun e w' => e = .returned (tabV fun x => f x ^^ g x) ∧ Below w.heap.size w w' := by
  unfold tabV tabCells
  go_enter Try.func29, Try.ntmps29
  go_wp2_with fail
  go_loopw [5] (fun i wr => ∃ k : Nat, k ≤ 4 ∧ i = .int .i64 k ∧ Below w.heap.size w wr ∧ w.heap.size + 1 + 1 < wr.heap.size ∧ Blk wr w.heap.size 29 (wordCells (joinTo (fun a b => a ^^^ b) f g k)) ∧ Blk wr (w.heap.size + 1) 29 (tabCells g) ∧ Blk wr (w.heap.size + 1 + 1) 29 zeroTab) (fun i _ => 4 - (intOf i).toNat)
  case atStart =>
    refine ⟨0, by omega, rfl, below3 _ _ _ _, by simp, ?_, (Blk.new1 w _ _ _).alloc _, Blk.new2 w _ _ _ _⟩
    rw [joinTo_zero]
    exact ((Blk.new w _ _).alloc _).alloc _
  case round =>
    obtain ⟨k, hk, rfl, hb, hsz, hF, hG, hZ⟩ := hrel
    by_cases hlt : k < 4
    · have cf := (hF.cell k).trans (wordCells_get _ hlt)
      have cg := (hG.cell k).trans (tabCells_get g hlt)
      have ff := hF.free k
      simp only [joinTo, Nat.lt_irrefl, if_false] at cf
      have hv : bits .xor .u64 ((wd f k : Nat) : Int) ((wd g k : Nat) : Int) = (((fun a b => a ^^^ b) (wd f k) (wd g k) : Nat) : Int) := bits_xor_u64 _ _ (wd_lt _ _) (wd_lt _ _)
      have HF := Lib.hid hF; clear hF
      have HG := Lib.hid hG; clear hG
      have HZ := Lib.hid hZ; clear hZ
      have HV := Lib.hid hv; clear hv
      have hk0 : (0 : Int) ≤ (k : Int) := by omega
      have hk4 : (k : Int) < 4 := by omega
      go_wp2_with fail
      go_region
      go_wp2_with fail
      go_roundw
      case rel =>
        refine ⟨k + 1, by omega, by go_num, (hb.setCell (p := ⟨w.heap.size, k, none⟩) (by simp) _).drew, by simp; omega, ?_, (HG.out.far (p := ⟨w.heap.size, k, none⟩) (by simp) _).drew, (HZ.out.far (p := ⟨w.heap.size, k, none⟩) (by simp; try omega) _).drew⟩
        rw [← joinTo_set (fun a b => a ^^^ b) f g k hlt, ← HV.out]
        exact (HF.out.set _ _).drew
      case measure => simp [intOf]; omega
    · obtain rfl : k = 4 := by omega
      rw [joinTo_all (fun a b => a ^^^ b) f g (fun x => f x ^^ g x) (fun i _ => wd_xor f g i)] at hF
      obtain ⟨⟨a0, a1, a2, a3⟩, f0, f1, f2, f3⟩ := Blk.four hF
      obtain ⟨⟨c0, c1, c2, c3⟩, g0, g1, g2, g3⟩ := Blk.four hZ
      have HF := Lib.hid hF; clear hF
      have HG := Lib.hid hG; clear hG
      have HZ := Lib.hid hZ; clear hZ
      go_wp2_with fail
      exact ret_tab rfl _ _ rfl rfl (HZ.out.put4 _ _ _ _) ⟨rfl, hb.put4 (by omega) _ _ _ _⟩

set_option maxRecDepth 100000 in
set_option maxHeartbeats 1000000 in
theorem rnot_any (f : Nat → Bool) (w : World) : Calls Try.prog 26 #[tabV f] w fun e w' => e = .returned (tabV fun x => !f x) ∧ Below w.heap.size w w' := by
  unfold tabV tabCells
  go_enter Try.func26, Try.ntmps26
  go_wp2_with fail
  go_loopw [3] (fun i wr => ∃ k : Nat, k ≤ 4 ∧ i = .int .i64 k ∧ Below w.heap.size w wr ∧ w.heap.size + 1 < wr.heap.size ∧ Blk wr w.heap.size 29 (wordCells (joinTo (fun a _ => 18446744073709551615 ^^^ a) f f k)) ∧ Blk wr (w.heap.size + 1) 29 zeroTab) (fun i _ => 4 - (intOf i).toNat)
  case atStart =>
    refine ⟨0, by omega, rfl, below2 _ _ _, by simp, ?_, Blk.new1 w _ _ _⟩
    rw [joinTo_zero]
    exact ((Blk.new w _ _).alloc _)
  case round =>
    obtain ⟨k, hk, rfl, hb, hsz, hF, hZ⟩ := hrel
    by_cases hlt : k < 4
    · have cf := (hF.cell k).trans (wordCells_get _ hlt)
      have ff := hF.free k
      simp only [joinTo, Nat.lt_irrefl, if_false] at cf
      have hv : bits .xor .u64 (IntKind.u64.max) ((wd f k : Nat) : Int) = (((fun a _ => 18446744073709551615 ^^^ a) (wd f k) (wd f k) : Nat) : Int) := (by rw [show IntKind.u64.max = ((18446744073709551615 : Nat) : Int) from rfl]; exact bits_xor_u64 _ _ (by omega) (wd_lt _ _))
      have HF := Lib.hid hF; clear hF
      have HZ := Lib.hid hZ; clear hZ
      have HV := Lib.hid hv; clear hv
      have hk0 : (0 : Int) ≤ (k : Int) := by omega
      have hk4 : (k : Int) < 4 := by omega
      go_wp2_with fail
      go_roundw
      case rel =>
        refine ⟨k + 1, by omega, by go_num, (hb.setCell (p := ⟨w.heap.size, k, none⟩) (by simp) _), by simp; omega, ?_, (HZ.out.far (p := ⟨w.heap.size, k, none⟩) (by simp; try omega) _)⟩
        rw [← joinTo_set (fun a _ => 18446744073709551615 ^^^ a) f f k hlt, ← HV.out]
        exact (HF.out.set _ _)
      case measure => simp [intOf]; omega
    · obtain rfl : k = 4 := by omega
      rw [joinTo_all (fun a _ => 18446744073709551615 ^^^ a) f f (fun x => !f x) (fun i _ => wd_not f i)] at hF
      obtain ⟨⟨a0, a1, a2, a3⟩, f0, f1, f2, f3⟩ := Blk.four hF
      obtain ⟨⟨c0, c1, c2, c3⟩, g0, g1, g2, g3⟩ := Blk.four hZ
      have HF := Lib.hid hF; clear hF
      have HZ := Lib.hid hZ; clear hZ
      go_wp2_with fail
      exact ret_tab rfl _ _ rfl rfl (HZ.out.put4 _ _ _ _) ⟨rfl, hb.put4 (by omega) _ _ _ _⟩
end Go.Proofs.Ytmjpecjciibngaa
