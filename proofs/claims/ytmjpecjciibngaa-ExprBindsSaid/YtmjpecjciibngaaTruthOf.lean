/- truth.of: the table of what a function value answers at each assignment. -/
import Derived.Test.YtmjpecjciibngaaMem
namespace Go.Proofs.Ytmjpecjciibngaa
open Go.RowKit
set_option linter.unusedVariables false

theorem shl1_u64 (x : Nat) : IntKind.u64.wrap (2 ^ (x % 64)) = ((2 ^ (x % 64) : Nat) : Int) := by
  rw [IntKind.wrap_u64]
  have h : 2 ^ (x % 64) < 2 ^ 64 := Nat.pow_lt_pow_right (by omega) (by omega)
  have h2 : ((2 : Int) ^ (x % 64)) = ((2 ^ (x % 64) : Nat) : Int) := by rw [Int.natCast_pow]; rfl
  rw [h2]
  generalize 2 ^ (x % 64) = a at *
  omega

def upTo (g : Nat → Bool) (x : Nat) : Nat → Bool := fun y => decide (y < x) && g y
theorem upTo_zero (g : Nat → Bool) : tabCells (upTo g 0) = #[.int .u64 0, .int .u64 0, .int .u64 0, .int .u64 0] := by
  have h : ∀ i, wd (upTo g 0) i = 0 := fun i => by rw [show upTo g 0 = fun _ => false by funext y; simp [upTo]]; exact wd_false i
  simp [tabCells, h]
theorem upTo_all (g : Nat → Bool) : tabCells (upTo g 256) = tabCells g := tabCells_congr fun x hx => by simp [upTo, hx]
theorem upTo_no (g : Nat → Bool) (x : Nat) (h : g x = false) : tabCells (upTo g (x + 1)) = tabCells (upTo g x) := tabCells_congr fun y _ => by
  by_cases e : y = x
  · subst e; simp [upTo, h]
  · have : decide (y < x + 1) = decide (y < x) := by rw [decide_eq_decide]; omega
    simp [upTo, this]
theorem upTo_yes (g : Nat → Bool) (x : Nat) (hx : x < 256) (h : g x = true) :
    (tabCells (upTo g x)).setIfInBounds (x / 64) (.int .u64 (bits .or .u64 ((wd (upTo g x) (x / 64) : Nat) : Int) (IntKind.u64.wrap (2 ^ (x % 64))))) = tabCells (upTo g (x + 1)) := by
  rw [shl1_u64, bits_or_u64 _ _ (wd_lt _ _) (by
    have : 2 ^ (x % 64) < 2 ^ 64 := Nat.pow_lt_pow_right (by omega) (by omega)
    omega)]
  refine tabCells_set (upTo g x) (upTo g (x + 1)) x hx (by simp [upTo, h]) fun y hy => ?_
  have : decide (y < x + 1) = decide (y < x) := by rw [decide_eq_decide]; omega
  simp [upTo, this]

set_option maxRecDepth 100000 in
set_option maxHeartbeats 1000000 in
theorem of_any (fid : Nat) (caps : Array Value) (g : Nat → Bool) (w : World) (hent : ∀ args W, (callFunc fid args).run Try.prog W = .ok (.enter fid args) W)
    (hcall : ∀ (x : Nat) (w1 : World), x < 256 → Below w.heap.size w w1 → Calls Try.prog fid (#[.int .u8 (x:Int)] ++ caps) w1 fun e w2 => e = .returned (.bool (g x)) ∧ Below w1.heap.size w1 w2) :
    Calls Try.prog 64 #[.func (.func fid) #[] caps] w fun e w' => e = .returned (tabV g) ∧ Below w.heap.size w w' := by
  have HC := Lib.hid hcall; clear hcall
  go_enter Try.func64, Try.ntmps64
  go_wp2
  go_loopw [5] (fun i wr => ∃ x : Nat, x ≤ 256 ∧ i = .int .i64 x ∧ Below w.heap.size w wr ∧ w.heap.size + 1 < wr.heap.size ∧ Blk wr (w.heap.size + 1) 29 (tabCells (upTo g x)) ∧ Blk wr w.heap.size 29 #[.int .u64 0, .int .u64 0, .int .u64 0, .int .u64 0]) (fun i _ => 256 - (intOf i).toNat)
  case atStart =>
    refine ⟨0, by omega, rfl, ((Below.refl _ _).alloc (Nat.le_refl _) _).alloc (by simp) _, by simp, ?_, (Blk.new w _ _).alloc _⟩
    rw [upTo_zero]
    have := Blk.new (w.alloc (.cells #[.int .u64 0, .int .u64 0, .int .u64 0, .int .u64 0] 29)) 29 #[.int .u64 0, .int .u64 0, .int .u64 0, .int .u64 0]
    simpa using this
  case round =>
    obtain ⟨x, hx, rfl, hb, hsz, hc, hcs⟩ := hrel
    have HB := Lib.hid hc; clear hc
    have HS := Lib.hid hcs; clear hcs
    by_cases hlt : x < 256
    · go_wp2
      refine (HC.out x _ (by omega) hb).mono ?_
      rintro e w2 ⟨rfl, hb2⟩
      have B2 := HB.out.keep hb2
      have S2 := HS.out.keep hb2
      have hc2 := (B2.cell (x / 64)).trans (tabCells_get _ (by omega))
      have hf2 := B2.free (x / 64)
      have HB2 := Lib.hid B2; clear B2
      have HS2 := Lib.hid S2; clear S2
      have hb' := hb.step hb2
      have hsz2 := hb2.size
      cases hg : g x
      · have Hg := Lib.hid hg; clear hg
        clear hc2 hf2
        go_wp2
        go_roundw
        case rel => exact ⟨x + 1, by omega, by go_num, hb', by omega, by rw [upTo_no g x Hg.out]; exact HB2.out, HS2.out⟩
        case measure => simp [intOf]; omega
      · have Hg := Lib.hid hg; clear hg
        go_wp2
        go_region
        clear hc2 hf2
        go_wp2
        go_roundw
        case rel =>
          refine ⟨x + 1, by omega, by go_num, (hb'.setCell (p := ⟨w.heap.size + 1, x / 64, none⟩) (by simp) _).drew, by simp; omega, ?_, (HS2.out.far (p := ⟨w.heap.size + 1, x / 64, none⟩) (by simp) _).drew⟩
          rw [← upTo_yes g x hlt Hg.out]
          exact (HB2.out.set _ _).drew
        case measure => simp [intOf]; omega
    · obtain rfl : x = 256 := by omega
      have HB' := HB.out
      rw [upTo_all] at HB'
      have a0 := (HB'.cell 0).trans (tabCells_get g (by omega))
      have a1 := (HB'.cell 1).trans (tabCells_get g (by omega))
      have a2 := (HB'.cell 2).trans (tabCells_get g (by omega))
      have a3 := (HB'.cell 3).trans (tabCells_get g (by omega))
      have HA := Lib.hid HB'; clear HB'
      have r0 := HS.out.free 0
      have r1 := HS.out.free 1
      have r2 := HS.out.free 2
      have r3 := HS.out.free 3
      have b0 := HS.out.cell 0
      have b1 := HS.out.cell 1
      have b2 := HS.out.cell 2
      have b3 := HS.out.cell 3
      go_wp2
      exact ret_tab rfl _ g rfl rfl (HS.out.put4 _ _ _ _) ⟨rfl, hb.put4 (Nat.le_refl _) _ _ _ _⟩
end Go.Proofs.Ytmjpecjciibngaa
