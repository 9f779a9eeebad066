/- The word-by-word functions of package truth. -/
import Derived.Test.YtmjpecjciibngaaTruth2
namespace Go.Proofs.Ytmjpecjciibngaa
open Go.RowKit
set_option linter.unusedVariables false

/-- The table whose words below k are joined. -/
def joinTo (J : Nat → Nat → Nat) (f g : Nat → Bool) (k i : Nat) : Nat := if i < k then J (wd f i) (wd g i) else wd f i
def wordCells (n : Nat → Nat) : Array Value := #[.int .u64 (n 0 : Nat), .int .u64 (n 1 : Nat), .int .u64 (n 2 : Nat), .int .u64 (n 3 : Nat)]
theorem wordCells_get (n : Nat → Nat) {i : Nat} (hi : i < 4) : (wordCells n)[i]? = some (.int .u64 (n i : Nat)) := by
  match i, hi with
  | 0, _ => rfl
  | 1, _ => rfl
  | 2, _ => rfl
  | 3, _ => rfl
theorem joinTo_zero (J : Nat → Nat → Nat) (f g : Nat → Bool) : wordCells (joinTo J f g 0) = tabCells f := by simp [wordCells, tabCells, joinTo]
theorem joinTo_set (J : Nat → Nat → Nat) (f g : Nat → Bool) (k : Nat) (hk : k < 4) :
    (wordCells (joinTo J f g k)).setIfInBounds k (.int .u64 (J (wd f k) (wd g k) : Nat)) = wordCells (joinTo J f g (k + 1)) := by
  have h4 : k = 0 ∨ k = 1 ∨ k = 2 ∨ k = 3 := by omega
  rcases h4 with rfl | rfl | rfl | rfl <;> simp [wordCells, joinTo]
theorem joinTo_all (J : Nat → Nat → Nat) (f g h : Nat → Bool) (hJ : ∀ i, i < 4 → J (wd f i) (wd g i) = wd h i) : wordCells (joinTo J f g 4) = tabCells h := by
  simp [wordCells, tabCells, joinTo, hJ 0 (by omega), hJ 1 (by omega), hJ 2 (by omega), hJ 3 (by omega)]

set_option maxRecDepth 100000 in
set_option maxHeartbeats 1000000 in
theorem each_any (fid : Nat) (J : Nat → Nat → Nat) (f g h : Nat → Bool) (w : World) (hent : ∀ args W, (callFunc fid args).run Try.prog W = .ok (.enter fid args) W)
    (hcall : ∀ (i : Nat) (w1 : World), i < 4 → Calls Try.prog fid #[.int .u64 (wd f i : Nat), .int .u64 (wd g i : Nat)] w1 fun e w2 => e = .returned (.int .u64 (J (wd f i) (wd g i) : Nat)) ∧ w1 = w2)
    (hJ : ∀ i, i < 4 → J (wd f i) (wd g i) = wd h i) :
    Calls Try.prog 68 #[tabV f, tabV g, .func (.func fid) #[] #[]] w fun e w' => e = .returned (tabV h) ∧ Below w.heap.size w w' := by
  have HC := Lib.hid hcall; clear hcall
  have HJ := Lib.hid hJ; clear hJ
  unfold tabV tabCells
  go_enter Try.func68, Try.ntmps68
  go_wp2_with fail
  go_loopw [8] (fun i wr => ∃ k : Nat, k ≤ 4 ∧ i = .int .i64 k ∧ Below w.heap.size w wr ∧ w.heap.size + 1 + 1 < wr.heap.size ∧ Blk wr w.heap.size 29 (wordCells (joinTo J f g k)) ∧ Blk wr (w.heap.size + 1) 29 (tabCells g) ∧ Blk wr (w.heap.size + 1 + 1) 29 zeroTab) (fun i _ => 4 - (intOf i).toNat)
  case atStart =>
    refine ⟨0, by omega, rfl, below3 _ _ _ _, by simp, ?_, (Blk.new1 w _ _ _).alloc _, Blk.new2 w _ _ _ _⟩
    rw [joinTo_zero]
    exact ((Blk.new w _ _).alloc _).alloc _
  case round =>
    obtain ⟨k, hk, rfl, hb, hsz, hF, hG, hZ⟩ := hrel
    by_cases hlt : k < 4
    · have cf := (hF.cell k).trans (wordCells_get _ hlt)
      have cg := (hG.cell k).trans (tabCells_get g hlt)
      have ff := hF.free k
      simp only [joinTo, Nat.lt_irrefl, if_false] at cf
      have HF := Lib.hid hF; clear hF
      have HG := Lib.hid hG; clear hG
      have HZ := Lib.hid hZ; clear hZ
      have hk0 : (0 : Int) ≤ (k : Int) := by omega
      have hk4 : (k : Int) < 4 := by omega
      go_wp2_with fail
      go_still_tail 9, (by kernel_rfl)
      still_call ((HC.out k _ hlt).mono fun e w' h => ⟨h.1, h.2.symm⟩)
      repeat still_step
      refine wpStill_nil ?_
      go_wp2_with fail
      go_roundw
      case rel =>
        refine ⟨k + 1, by omega, by go_num, (hb.drew).setCell (p := ⟨w.heap.size, k, none⟩) (by simp) _, by simp; omega, ?_, (HG.out.drew).far (p := ⟨w.heap.size, k, none⟩) (by simp) _, (HZ.out.drew).far (p := ⟨w.heap.size, k, none⟩) (by simp; omega) _⟩
        rw [← joinTo_set J f g k hlt]
        exact (HF.out.drew).set _ _
      case measure => simp [intOf]; omega
    · obtain rfl : k = 4 := by omega
      rw [joinTo_all J f g h HJ.out] at hF
      obtain ⟨⟨a0, a1, a2, a3⟩, f0, f1, f2, f3⟩ := Blk.four hF
      obtain ⟨⟨c0, c1, c2, c3⟩, g0, g1, g2, g3⟩ := Blk.four hZ
      have HF := Lib.hid hF; clear hF
      have HG := Lib.hid hG; clear hG
      have HZ := Lib.hid hZ; clear hZ
      go_wp2_with fail
      exact ret_tab rfl _ _ rfl rfl (HZ.out.put4 _ _ _ _) ⟨rfl, hb.put4 (by omega) _ _ _ _⟩
end Go.Proofs.Ytmjpecjciibngaa
