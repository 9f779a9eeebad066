/- The document's tables: not, and, or, xor, word by word. The document's tables: set, const, var, ite. -/
import Derived.Test.YtmjpecjciibngaaBTru
import Derived.Deep.RegionHeld3
namespace Go.Proofs.Ytmjpecjciibngaa
open Go.RowKit
set_option linter.unusedVariables false

set_option maxRecDepth 100000 in
set_option maxHeartbeats 1000000 in
theorem ror_any (f g : Nat → Bool) (w : World) : Calls Try.prog 25 #[tabV f, tabV g] w fun e w' => e = .returned (tabV fun x => f x || g x) ∧ Below w.heap.size w w' := by
  unfold tabV tabCells
  go_enter Try.func25, Try.ntmps25
  go_wp2_with fail
  go_loopw [5] (fun i wr => ∃ k : Nat, k ≤ 4 ∧ i = .int .i64 k ∧ Below w.heap.size w wr ∧ w.heap.size + 1 + 1 < wr.heap.size ∧ Blk wr w.heap.size 29 (wordCells (joinTo (fun a b => a ||| b) f g k)) ∧ Blk wr (w.heap.size + 1) 29 (tabCells g) ∧ Blk wr (w.heap.size + 1 + 1) 29 zeroTab) (fun i _ => 4 - (intOf i).toNat)
  case atStart =>
    refine ⟨0, by omega, rfl, below3 _ _ _ _, by simp, ?_, (Blk.new1 w _ _ _).alloc _, Blk.new2 w _ _ _ _⟩
    rw [joinTo_zero]
    exact ((Blk.new w _ _).alloc _).alloc _
  case round =>
    obtain ⟨k, hk, rfl, hb, hsz, hF, hG, hZ⟩ := hrel
    by_cases hlt : k < 4
    · have cf := (hF.cell k).trans (wordCells_get _ hlt)
      have cg := (hG.cell k).trans (tabCells_get g hlt)
      have ff := hF.free k
      simp only [joinTo, Nat.lt_irrefl, if_false] at cf
      have hv : bits .or .u64 ((wd f k : Nat) : Int) ((wd g k : Nat) : Int) = (((fun a b => a ||| b) (wd f k) (wd g k) : Nat) : Int) := bits_or_u64 _ _ (wd_lt _ _) (wd_lt _ _)
      have HF := Lib.hid hF; clear hF
      have HG := Lib.hid hG; clear hG
      have HZ := Lib.hid hZ; clear hZ
      have HV := Lib.hid hv; clear hv
      have hk0 : (0 : Int) ≤ (k : Int) := by omega
      have hk4 : (k : Int) < 4 := by omega
      go_wp2_with fail
      go_region
      go_wp2_with fail
      go_roundw
      case rel =>
        refine ⟨k + 1, by omega, by go_num, (hb.setCell (p := ⟨w.heap.size, k, none⟩) (by simp) _).drew, by simp; omega, ?_, (HG.out.far (p := ⟨w.heap.size, k, none⟩) (by simp) _).drew, (HZ.out.far (p := ⟨w.heap.size, k, none⟩) (by simp; try omega) _).drew⟩
        rw [← joinTo_set (fun a b => a ||| b) f g k hlt, ← HV.out]
        exact (HF.out.set _ _).drew
      case measure => simp [intOf]; omega
    · obtain rfl : k = 4 := by omega
      rw [joinTo_all (fun a b => a ||| b) f g (fun x => f x || g x) (fun i _ => wd_or f g i)] at hF
      obtain ⟨⟨a0, a1, a2, a3⟩, f0, f1, f2, f3⟩ := Blk.four hF
      obtain ⟨⟨c0, c1, c2, c3⟩, g0, g1, g2, g3⟩ := Blk.four hZ
      have HF := Lib.hid hF; clear hF
      have HG := Lib.hid hG; clear hG
      have HZ := Lib.hid hZ; clear hZ
      go_wp2_with fail
      exact ret_tab rfl _ _ rfl rfl (HZ.out.put4 _ _ _ _) ⟨rfl, hb.put4 (by omega) _ _ _ _⟩

set_option maxRecDepth 100000 in
set_option maxHeartbeats 1000000 in
theorem rand_any (f g : Nat → Bool) (w : World) : Calls Try.prog 27 #[tabV f, tabV g] w fun e w' => e = .returned (tabV fun x => f x && g x) ∧ Below w.heap.size w w' := by
  unfold tabV tabCells
  go_enter Try.func27, Try.ntmps27
  go_wp2_with fail
  go_loopw [5] (fun i wr => ∃ k : Nat, k ≤ 4 ∧ i = .int .i64 k ∧ Below w.heap.size w wr ∧ w.heap.size + 1 + 1 < wr.heap.size ∧ Blk wr w.heap.size 29 (wordCells (joinTo (fun a b => a &&& b) f g k)) ∧ Blk wr (w.heap.size + 1) 29 (tabCells g) ∧ Blk wr (w.heap.size + 1 + 1) 29 zeroTab) (fun i _ => 4 - (intOf i).toNat)
  case atStart =>
    refine ⟨0, by omega, rfl, below3 _ _ _ _, by simp, ?_, (Blk.new1 w _ _ _).alloc _, Blk.new2 w _ _ _ _⟩
    rw [joinTo_zero]
    exact ((Blk.new w _ _).alloc _).alloc _
  case round =>
    obtain ⟨k, hk, rfl, hb, hsz, hF, hG, hZ⟩ := hrel
    by_cases hlt : k < 4
    · have cf := (hF.cell k).trans (wordCells_get _ hlt)
      have cg := (hG.cell k).trans (tabCells_get g hlt)
      have ff := hF.free k
      simp only [joinTo, Nat.lt_irrefl, if_false] at cf
      have hv : bits .and .u64 ((wd f k : Nat) : Int) ((wd g k : Nat) : Int) = (((fun a b => a &&& b) (wd f k) (wd g k) : Nat) : Int) := bits_and_u64 _ _ (wd_lt _ _) (wd_lt _ _)
      have HF := Lib.hid hF; clear hF
      have HG := Lib.hid hG; clear hG
      have HZ := Lib.hid hZ; clear hZ
      have HV := Lib.hid hv; clear hv
      have hk0 : (0 : Int) ≤ (k : Int) := by omega
      have hk4 : (k : Int) < 4 := by omega
      go_wp2_with fail
      go_region
      go_wp2_with fail
      go_roundw
      case rel =>
        refine ⟨k + 1, by omega, by go_num, (hb.setCell (p := ⟨w.heap.size, k, none⟩) (by simp) _).drew, by simp; omega, ?_, (HG.out.far (p := ⟨w.heap.size, k, none⟩) (by simp) _).drew, (HZ.out.far (p := ⟨w.heap.size, k, none⟩) (by simp; try omega) _).drew⟩
        rw [← joinTo_set (fun a b => a &&& b) f g k hlt, ← HV.out]
        exact (HF.out.set _ _).drew
      case measure => simp [intOf]; omega
    · obtain rfl : k = 4 := by omega
      rw [joinTo_all (fun a b => a &&& b) f g (fun x => f x && g x) (fun i _ => wd_and f g i)] at hF
      obtain ⟨⟨a0, a1, a2, a3⟩, f0, f1, f2, f3⟩ := Blk.four hF
      obtain ⟨⟨c0, c1, c2, c3⟩, g0, g1, g2, g3⟩ := Blk.four hZ
      have HF := Lib.hid hF; clear hF
      have HG := Lib.hid hG; clear hG
      have HZ := Lib.hid hZ; clear hZ
      go_wp2_with fail
      exact ret_tab rfl _ _ rfl rfl (HZ.out.put4 _ _ _ _) ⟨rfl, hb.put4 (by omega) _ _ _ _⟩

set_option maxRecDepth 100000 in
set_option maxHeartbeats 1000000 in
theorem rxor_any (f g : Nat → Bool) (w : World) : Calls Try.prog 29 #[tabV f, tabV g] w fun e w' => e = .returned (tabV fun x => f x ^^ g x) ∧ Below w.heap.size w w' := by
  unfold tabV tabCells
  go_enter Try.func29, Try.ntmps29
  go_wp2_with fail
  go_loopw [5] (fun i wr => ∃ k : Nat, k ≤ 4 ∧ i = .int .i64 k ∧ Below w.heap.size w wr ∧ w.heap.size + 1 + 1 < wr.heap.size ∧ Blk wr w.heap.size 29 (wordCells (joinTo (fun a b => a ^^^ b) f g k)) ∧ Blk wr (w.heap.size + 1) 29 (tabCells g) ∧ Blk wr (w.heap.size + 1 + 1) 29 zeroTab) (fun i _ => 4 - (intOf i).toNat)
  case atStart =>
    refine ⟨0, by omega, rfl, below3 _ _ _ _, by simp, ?_, (Blk.new1 w _ _ _).alloc _, Blk.new2 w _ _ _ _⟩
    rw [joinTo_zero]
    exact ((Blk.new w _ _).alloc _).alloc _
  case round =>
    obtain ⟨k, hk, rfl, hb, hsz, hF, hG, hZ⟩ := hrel
    by_cases hlt : k < 4
    · have cf := (hF.cell k).trans (wordCells_get _ hlt)
      have cg := (hG.cell k).trans (tabCells_get g hlt)
      have ff := hF.free k
      simp only [joinTo, Nat.lt_irrefl, if_false] at cf
      have hv : bits .xor .u64 ((wd f k : Nat) : Int) ((wd g k : Nat) : Int) = (((fun a b => a ^^^ b) (wd f k) (wd g k) : Nat) : Int) := bits_xor_u64 _ _ (wd_lt _ _) (wd_lt _ _)
      have HF := Lib.hid hF; clear hF
      have HG := Lib.hid hG; clear hG
      have HZ := Lib.hid hZ; clear hZ
      have HV := Lib.hid hv; clear hv
      have hk0 : (0 : Int) ≤ (k : Int) := by omega
      have hk4 : (k : Int) < 4 := by omega
      go_wp2_with fail
      go_region
      go_wp2_with fail
      go_roundw
      case rel =>
        refine ⟨k + 1, by omega, by go_num, (hb.setCell (p := ⟨w.heap.size, k, none⟩) (by simp) _).drew, by simp; omega, ?_, (HG.out.far (p := ⟨w.heap.size, k, none⟩) (by simp) _).drew, (HZ.out.far (p := ⟨w.heap.size, k, none⟩) (by simp; try omega) _).drew⟩
        rw [← joinTo_set (fun a b => a ^^^ b) f g k hlt, ← HV.out]
        exact (HF.out.set _ _).drew
      case measure => simp [intOf]; omega
    · obtain rfl : k = 4 := by omega
      rw [joinTo_all (fun a b => a ^^^ b) f g (fun x => f x ^^ g x) (fun i _ => wd_xor f g i)] at hF
      obtain ⟨⟨a0, a1, a2, a3⟩, f0, f1, f2, f3⟩ := Blk.four hF
      obtain ⟨⟨c0, c1, c2, c3⟩, g0, g1, g2, g3⟩ := Blk.four hZ
      have HF := Lib.hid hF; clear hF
      have HG := Lib.hid hG; clear hG
      have HZ := Lib.hid hZ; clear hZ
      go_wp2_with fail
      exact ret_tab rfl _ _ rfl rfl (HZ.out.put4 _ _ _ _) ⟨rfl, hb.put4 (by omega) _ _ _ _⟩

set_option maxRecDepth 100000 in
set_option maxHeartbeats 1000000 in
theorem rnot_any (f : Nat → Bool) (w : World) : Calls Try.prog 26 #[tabV f] w fun e w' => e = .returned (tabV fun x => !f x) ∧ Below w.heap.size w w' := by
  unfold tabV tabCells
  go_enter Try.func26, Try.ntmps26
  go_wp2_with fail
  go_loopw [3] (fun i wr => ∃ k : Nat, k ≤ 4 ∧ i = .int .i64 k ∧ Below w.heap.size w wr ∧ w.heap.size + 1 < wr.heap.size ∧ Blk wr w.heap.size 29 (wordCells (joinTo (fun a _ => 18446744073709551615 ^^^ a) f f k)) ∧ Blk wr (w.heap.size + 1) 29 zeroTab) (fun i _ => 4 - (intOf i).toNat)
  case atStart =>
    refine ⟨0, by omega, rfl, below2 _ _ _, by simp, ?_, Blk.new1 w _ _ _⟩
    rw [joinTo_zero]
    exact ((Blk.new w _ _).alloc _)
  case round =>
    obtain ⟨k, hk, rfl, hb, hsz, hF, hZ⟩ := hrel
    by_cases hlt : k < 4
    · have cf := (hF.cell k).trans (wordCells_get _ hlt)
      have ff := hF.free k
      simp only [joinTo, Nat.lt_irrefl, if_false] at cf
      have hv : bits .xor .u64 (IntKind.u64.max) ((wd f k : Nat) : Int) = (((fun a _ => 18446744073709551615 ^^^ a) (wd f k) (wd f k) : Nat) : Int) := (by rw [show IntKind.u64.max = ((18446744073709551615 : Nat) : Int) from rfl]; exact bits_xor_u64 _ _ (by omega) (wd_lt _ _))
      have HF := Lib.hid hF; clear hF
      have HZ := Lib.hid hZ; clear hZ
      have HV := Lib.hid hv; clear hv
      have hk0 : (0 : Int) ≤ (k : Int) := by omega
      have hk4 : (k : Int) < 4 := by omega
      go_wp2_with fail
      go_roundw
      case rel =>
        refine ⟨k + 1, by omega, by go_num, (hb.setCell (p := ⟨w.heap.size, k, none⟩) (by simp) _), by simp; omega, ?_, (HZ.out.far (p := ⟨w.heap.size, k, none⟩) (by simp; try omega) _)⟩
        rw [← joinTo_set (fun a _ => 18446744073709551615 ^^^ a) f f k hlt, ← HV.out]
        exact (HF.out.set _ _)
      case measure => simp [intOf]; omega
    · obtain rfl : k = 4 := by omega
      rw [joinTo_all (fun a _ => 18446744073709551615 ^^^ a) f f (fun x => !f x) (fun i _ => wd_not f i)] at hF
      obtain ⟨⟨a0, a1, a2, a3⟩, f0, f1, f2, f3⟩ := Blk.four hF
      obtain ⟨⟨c0, c1, c2, c3⟩, g0, g1, g2, g3⟩ := Blk.four hZ
      have HF := Lib.hid hF; clear hF
      have HZ := Lib.hid hZ; clear hZ
      go_wp2_with fail
      exact ret_tab rfl _ _ rfl rfl (HZ.out.put4 _ _ _ _) ⟨rfl, hb.put4 (by omega) _ _ _ _⟩
end Go.Proofs.Ytmjpecjciibngaa
namespace Go.Proofs.Ytmjpecjciibngaa
open Go.RowKit
set_option linter.unusedVariables false

theorem set_no (p : Value) (x : Nat) (bb : Bool) (hbb : bb = false) (w : World) : Calls Try.prog 28 #[p, .int .u8 (x : Int), .bool bb] w fun e w' => e = .returned (.tuple #[]) ∧ w = w' := by
  subst hbb
  go_enter Try.func28, Try.ntmps28
  go_wp2
  go_end0
  exact ⟨rfl, rfl⟩

theorem set_yes (f g : Nat → Bool) (b x : Nat) (bb : Bool) (hbb : bb = true) (hx : x < 256) (w : World) (hB : Blk w b 29 (tabCells f)) (hg : g x = true) (hfg : ∀ y, y ≠ x → f y = g y) :
    Calls Try.prog 28 #[.pointer (some ⟨b, 0, none⟩),   .int .u8 (x : Int), .bool bb] w fun e w' => e = .returned (.tuple #[]) ∧ w.grownBy w' (some b) ∧ Blk w' b 29 (tabCells g) := by
  subst hbb
  have hc := (hB.cell (x / 64)).trans (tabCells_get f (show x / 64 < 4 by omega))
  have hf := hB.free (x / 64)
  have hv : bits .or .u64 ((wd f (x / 64) : Nat) : Int) (IntKind.u64.wrap (2 ^ (x % 64))) = ((wd f (x / 64) ||| 2 ^ (x % 64) : Nat) : Int) := by
    rw [shl1_u64, bits_or_u64 _ _ (wd_lt _ _) (by
      have : 2 ^ (x % 64) < 2 ^ 64 := Nat.pow_lt_pow_right (by omega) (by omega)
      omega)]
  have hs := tabCells_set f g x hx hg hfg
  rw [← hv] at hs
  have HS := Lib.hid hs; clear hs hv
  have HB := Lib.hid hB; clear hB
  have HG := Lib.hid hg; clear hg
  clear hfg
  go_enter Try.func28, Try.ntmps28
  go_wp2
  go_region
  go_wp2
  go_end0
  exact ⟨rfl, grown_drew (grown_set (World.grownBy.refl _ _) rfl _), by rw [← HS.out]; exact (HB.out.set _ _).drew⟩

theorem bv64_small (a : Nat) (ha : a < 256) : (BitVec.ofInt 64 (a : Int)).toNat = a := bv64 a (by omega)
theorem shr_and_i64 (x v : Nat) (hx : x < 256) : (bits .and .i64 ((x : Int) / (2 ^ v : Int)) 1 == 1) = x.testBit v := by
  have h2 : ((x : Int) / (2 ^ v : Int)) = ((x / 2 ^ v : Nat) : Int) := by rw [Int.natCast_ediv, Int.natCast_pow]; rfl
  have hle : x / 2 ^ v < 256 := Nat.lt_of_le_of_lt (Nat.div_le_self _ _) hx
  have e : bits .and .i64 ((x / 2 ^ v : Nat) : Int) ((1 : Nat) : Int) = ((x / 2 ^ v % 2 : Nat) : Int) := by
    show IntKind.i64.wrap ((BitVec.ofInt 64 ((x / 2 ^ v : Nat) : Int) &&& BitVec.ofInt 64 ((1 : Nat) : Int)).toNat : Int) = _
    rw [BitVec.toNat_and, bv64_small _ hle, bv64_small 1 (by omega), Nat.and_one_is_mod]
    have : x / 2 ^ v % 2 < 2 := Nat.mod_lt _ (by omega)
    exact IntWalk.i64_in _ (by omega)
  rw [h2, show (1 : Int) = ((1 : Nat) : Int) from rfl, e, Nat.testBit_eq_decide_div_mod_eq]
  simp only [Bool.beq_eq_decide_eq]
  congr 1
  rw [eq_iff_iff]; constructor <;> intro h <;> omega

set_option maxRecDepth 100000 in
set_option maxHeartbeats 1000000 in
theorem rconst_any (b : Bool) (w : World) : Calls Try.prog 38 #[.bool b] w fun e w' => e = .returned (tabV (fun _ : Nat => b)) ∧ Below w.heap.size w w' := by
  go_enter Try.func38, Try.ntmps38
  go_wp2_with fail
  go_loopw [4] (fun i wr => ∃ x : Nat, x ≤ 256 ∧ i = .int .i64 x ∧ Below w.heap.size w wr ∧ w.heap.size + 1 < wr.heap.size ∧ Blk wr (w.heap.size + 1) 29 (tabCells (upTo (fun _ : Nat => b) x)) ∧ Blk wr w.heap.size 29 zeroTab) (fun i _ => 256 - (intOf i).toNat)
  case atStart =>
    refine ⟨0, by omega, rfl, below2 _ _ _, by simp, ?_, (Blk.new w _ _).alloc _⟩
    rw [upTo_zero]
    exact Blk.new1 w _ _ _
  case round =>
    obtain ⟨x, hx, rfl, hb, hsz, hc, hcs⟩ := hrel
    have HB := Lib.hid hc; clear hc
    have HS := Lib.hid hcs; clear hcs
    by_cases hlt : x < 256
    · skip
      cases hg : (fun _ : Nat => b) x
      · have HG := Lib.hid hg; clear hg
        go_wp2_with fail
        refine (set_no _ x _ (HG.out) _).mono ?_
        rintro e w2 ⟨rfl, rfl⟩
        go_wp2_with fail
        go_roundw
        case rel => exact ⟨x + 1, by omega, by go_num, hb, hsz, by rw [upTo_no _ x HG.out]; exact HB.out, HS.out⟩
        case measure => simp [intOf]; omega
      · have HG := Lib.hid hg; clear hg
        go_wp2_with fail
        refine (set_yes (upTo (fun _ : Nat => b) x) (upTo (fun _ : Nat => b) (x + 1)) (w.heap.size + 1) x _ (HG.out) hlt _ HB.out (by have := HG.out; simp_all [upTo]) ?_).mono ?_
        · intro y hy
          have : decide (y < x + 1) = decide (y < x) := by rw [decide_eq_decide]; omega
          simp [upTo, this]
        rintro e w2 ⟨rfl, hb2, hB2⟩
        have HB2 := Lib.hid hB2; clear hB2
        have hsz2 := hb2.size
        go_wp2_with fail
        go_roundw
        case rel => exact ⟨x + 1, by omega, by go_num, hb.grown hb2 (by omega) (by simp), by omega, HB2.out, HS.out.grown hb2 (by simp)⟩
        case measure => simp [intOf]; omega
    · obtain rfl : x = 256 := by omega
      have HB' := HB.out
      rw [upTo_all] at HB'
      obtain ⟨⟨a0, a1, a2, a3⟩, f0, f1, f2, f3⟩ := Blk.four HB'
      obtain ⟨⟨c0, c1, c2, c3⟩, g0, g1, g2, g3⟩ := Blk.four HS.out
      clear HB'
      go_wp2_with fail
      exact ret_tab rfl _ _ rfl rfl (HS.out.put4 _ _ _ _) ⟨rfl, hb.put4 (by omega) _ _ _ _⟩

set_option maxRecDepth 100000 in
set_option maxHeartbeats 1000000 in
theorem rvar_any (v : Nat) (hv : v < 8) (w : World) : Calls Try.prog 10 #[.int .i64 (v : Int)] w fun e w' => e = .returned (tabV (fun x : Nat => x.testBit v)) ∧ Below w.heap.size w w' := by
  have hv8 : (v : Int) < 8 := by omega
  go_enter Try.func10, Try.ntmps10
  go_wp2_with fail
  go_loopw [4] (fun i wr => ∃ x : Nat, x ≤ 256 ∧ i = .int .i64 x ∧ Below w.heap.size w wr ∧ w.heap.size + 1 < wr.heap.size ∧ Blk wr (w.heap.size + 1) 29 (tabCells (upTo (fun x : Nat => x.testBit v) x)) ∧ Blk wr w.heap.size 29 zeroTab) (fun i _ => 256 - (intOf i).toNat)
  case atStart =>
    refine ⟨0, by omega, rfl, below2 _ _ _, by simp, ?_, (Blk.new w _ _).alloc _⟩
    rw [upTo_zero]
    exact Blk.new1 w _ _ _
  case round =>
    obtain ⟨x, hx, rfl, hb, hsz, hc, hcs⟩ := hrel
    have HB := Lib.hid hc; clear hc
    have HS := Lib.hid hcs; clear hcs
    by_cases hlt : x < 256
    · have hbit := Lib.hid (shr_and_i64 x v hlt)
      cases hg : (fun x : Nat => x.testBit v) x
      · have HG := Lib.hid hg; clear hg
        go_wp2_with fail
        refine (set_no _ x _ (hbit.out.trans HG.out) _).mono ?_
        rintro e w2 ⟨rfl, rfl⟩
        go_wp2_with fail
        go_roundw
        case rel => exact ⟨x + 1, by omega, by go_num, hb, hsz, by rw [upTo_no _ x HG.out]; exact HB.out, HS.out⟩
        case measure => simp [intOf]; omega
      · have HG := Lib.hid hg; clear hg
        go_wp2_with fail
        refine (set_yes (upTo (fun x : Nat => x.testBit v) x) (upTo (fun x : Nat => x.testBit v) (x + 1)) (w.heap.size + 1) x _ (hbit.out.trans HG.out) hlt _ HB.out (by have := HG.out; simp_all [upTo]) ?_).mono ?_
        · intro y hy
          have : decide (y < x + 1) = decide (y < x) := by rw [decide_eq_decide]; omega
          simp [upTo, this]
        rintro e w2 ⟨rfl, hb2, hB2⟩
        have HB2 := Lib.hid hB2; clear hB2
        have hsz2 := hb2.size
        go_wp2_with fail
        go_roundw
        case rel => exact ⟨x + 1, by omega, by go_num, hb.grown hb2 (by omega) (by simp), by omega, HB2.out, HS.out.grown hb2 (by simp)⟩
        case measure => simp [intOf]; omega
    · obtain rfl : x = 256 := by omega
      have HB' := HB.out
      rw [upTo_all] at HB'
      obtain ⟨⟨a0, a1, a2, a3⟩, f0, f1, f2, f3⟩ := Blk.four HB'
      obtain ⟨⟨c0, c1, c2, c3⟩, g0, g1, g2, g3⟩ := Blk.four HS.out
      clear HB'
      go_wp2_with fail
      exact ret_tab rfl _ _ rfl rfl (HS.out.put4 _ _ _ _) ⟨rfl, hb.put4 (by omega) _ _ _ _⟩
end Go.Proofs.Ytmjpecjciibngaa
