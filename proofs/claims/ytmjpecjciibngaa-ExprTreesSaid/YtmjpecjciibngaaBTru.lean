/- truth.of: the table of what a function value answers at each assignment. The package truth: each exported function computes the table of its meaning. The function values of package truth, and what they call. The word-by-word functions of package truth. The package truth, exported: not, and, or, xor, ite. The package truth: ite, exists, forall. -/
import Derived.Test.YtmjpecjciibngaaBBase
import Derived.Deep.RegionHeld3
import Derived.StillTailTactics
namespace Go.Proofs.Ytmjpecjciibngaa
open Go.RowKit
set_option linter.unusedVariables false

theorem shl1_u64 (x : Nat) : IntKind.u64.wrap (2 ^ (x % 64)) = ((2 ^ (x % 64) : Nat) : Int) := by
  rw [IntKind.wrap_u64]
  have h : 2 ^ (x % 64) < 2 ^ 64 := Nat.pow_lt_pow_right (by omega) (by omega)
  have h2 : ((2 : Int) ^ (x % 64)) = ((2 ^ (x % 64) : Nat) : Int) := by rw [Int.natCast_pow]; rfl
  rw [h2]
  generalize 2 ^ (x % 64) = a at *
  omega

def upTo (g : Nat → Bool) (x : Nat) : Nat → Bool := fun y => decide (y < x) && g y
theorem upTo_zero (g : Nat → Bool) : tabCells (upTo g 0) = #[.int .u64 0, .int .u64 0, .int .u64 0, .int .u64 0] := by
  have h : ∀ i, wd (upTo g 0) i = 0 := fun i => by rw [show upTo g 0 = fun _ => false by funext y; simp [upTo]]; exact wd_false i
  simp [tabCells, h]
theorem upTo_all (g : Nat → Bool) : tabCells (upTo g 256) = tabCells g := tabCells_congr fun x hx => by simp [upTo, hx]
theorem upTo_no (g : Nat → Bool) (x : Nat) (h : g x = false) : tabCells (upTo g (x + 1)) = tabCells (upTo g x) := tabCells_congr fun y _ => by
  by_cases e : y = x
  · subst e; simp [upTo, h]
  · have : decide (y < x + 1) = decide (y < x) := by rw [decide_eq_decide]; omega
    simp [upTo, this]
theorem upTo_yes (g : Nat → Bool) (x : Nat) (hx : x < 256) (h : g x = true) :
    (tabCells (upTo g x)).setIfInBounds (x / 64) (.int .u64 (bits .or .u64 ((wd (upTo g x) (x / 64) : Nat) : Int) (IntKind.u64.wrap (2 ^ (x % 64))))) = tabCells (upTo g (x + 1)) := by
  rw [shl1_u64, bits_or_u64 _ _ (wd_lt _ _) (by
    have : 2 ^ (x % 64) < 2 ^ 64 := Nat.pow_lt_pow_right (by omega) (by omega)
    omega)]
  refine tabCells_set (upTo g x) (upTo g (x + 1)) x hx (by simp [upTo, h]) fun y hy => ?_
  have : decide (y < x + 1) = decide (y < x) := by rw [decide_eq_decide]; omega
  simp [upTo, this]

set_option maxRecDepth 100000 in
set_option maxHeartbeats 1000000 in
theorem of_any (fid : Nat) (caps : Array Value) (g : Nat → Bool) (w : World) (hent : ∀ args W, (callFunc fid args).run Try.prog W = .ok (.enter fid args) W)
    (hcall : ∀ (x : Nat) (w1 : World), x < 256 → Below w.heap.size w w1 → Calls Try.prog fid (#[.int .u8 (x:Int)] ++ caps) w1 fun e w2 => e = .returned (.bool (g x)) ∧ Below w1.heap.size w1 w2) :
    Calls Try.prog 64 #[.func (.func fid) #[] caps] w fun e w' => e = .returned (tabV g) ∧ Below w.heap.size w w' := by
  have HC := Lib.hid hcall; clear hcall
  go_enter Try.func64, Try.ntmps64
  go_wp2
  go_loopw [5] (fun i wr => ∃ x : Nat, x ≤ 256 ∧ i = .int .i64 x ∧ Below w.heap.size w wr ∧ w.heap.size + 1 < wr.heap.size ∧ Blk wr (w.heap.size + 1) 29 (tabCells (upTo g x)) ∧ Blk wr w.heap.size 29 #[.int .u64 0, .int .u64 0, .int .u64 0, .int .u64 0]) (fun i _ => 256 - (intOf i).toNat)
  case atStart =>
    refine ⟨0, by omega, rfl, ((Below.refl _ _).alloc (Nat.le_refl _) _).alloc (by simp) _, by simp, ?_, (Blk.new w _ _).alloc _⟩
    rw [upTo_zero]
    have := Blk.new (w.alloc (.cells #[.int .u64 0, .int .u64 0, .int .u64 0, .int .u64 0] 29)) 29 #[.int .u64 0, .int .u64 0, .int .u64 0, .int .u64 0]
    simpa using this
  case round =>
    obtain ⟨x, hx, rfl, hb, hsz, hc, hcs⟩ := hrel
    have HB := Lib.hid hc; clear hc
    have HS := Lib.hid hcs; clear hcs
    by_cases hlt : x < 256
    · go_wp2
      refine (HC.out x _ (by omega) hb).mono ?_
      rintro e w2 ⟨rfl, hb2⟩
      have B2 := HB.out.keep hb2
      have S2 := HS.out.keep hb2
      have hc2 := (B2.cell (x / 64)).trans (tabCells_get _ (by omega))
      have hf2 := B2.free (x / 64)
      have HB2 := Lib.hid B2; clear B2
      have HS2 := Lib.hid S2; clear S2
      have hb' := hb.step hb2
      have hsz2 := hb2.size
      cases hg : g x
      · have Hg := Lib.hid hg; clear hg
        clear hc2 hf2
        go_wp2
        go_roundw
        case rel => exact ⟨x + 1, by omega, by go_num, hb', by omega, by rw [upTo_no g x Hg.out]; exact HB2.out, HS2.out⟩
        case measure => simp [intOf]; omega
      · have Hg := Lib.hid hg; clear hg
        go_wp2
        go_region
        clear hc2 hf2
        go_wp2
        go_roundw
        case rel =>
          refine ⟨x + 1, by omega, by go_num, (hb'.setCell (p := ⟨w.heap.size + 1, x / 64, none⟩) (by simp) _).drew, by simp; omega, ?_, (HS2.out.far (p := ⟨w.heap.size + 1, x / 64, none⟩) (by simp) _).drew⟩
          rw [← upTo_yes g x hlt Hg.out]
          exact (HB2.out.set _ _).drew
        case measure => simp [intOf]; omega
    · obtain rfl : x = 256 := by omega
      have HB' := HB.out
      rw [upTo_all] at HB'
      have a0 := (HB'.cell 0).trans (tabCells_get g (by omega))
      have a1 := (HB'.cell 1).trans (tabCells_get g (by omega))
      have a2 := (HB'.cell 2).trans (tabCells_get g (by omega))
      have a3 := (HB'.cell 3).trans (tabCells_get g (by omega))
      have HA := Lib.hid HB'; clear HB'
      have r0 := HS.out.free 0
      have r1 := HS.out.free 1
      have r2 := HS.out.free 2
      have r3 := HS.out.free 3
      have b0 := HS.out.cell 0
      have b1 := HS.out.cell 1
      have b2 := HS.out.cell 2
      have b3 := HS.out.cell 3
      go_wp2
      exact ret_tab rfl _ g rfl rfl (HS.out.put4 _ _ _ _) ⟨rfl, hb.put4 (Nat.le_refl _) _ _ _ _⟩
end Go.Proofs.Ytmjpecjciibngaa
namespace Go.Proofs.Ytmjpecjciibngaa
open Go.RowKit
set_option linter.unusedVariables false

/-- An assignment with variable v set. -/
def withB (x v : Nat) (b : Bool) : Nat := if b then x ||| 2 ^ v else (x ||| 2 ^ v) ^^^ 2 ^ v
theorem testBit_withB (x v : Nat) (b : Bool) (j : Nat) : (withB x v b).testBit j = if j = v then b else x.testBit j := by
  unfold withB
  cases b
  · rw [if_neg (by simp), Nat.testBit_xor, Nat.testBit_or, Nat.testBit_two_pow]
    by_cases h : v = j
    · subst h; simp
    · have : ¬ j = v := fun e => h e.symm
      simp [h, this]
  · rw [if_pos rfl, Nat.testBit_or, Nat.testBit_two_pow]
    by_cases h : v = j
    · subst h; simp
    · have : ¬ j = v := fun e => h e.symm
      simp [h, this]
theorem withB_lt {x v : Nat} (b : Bool) (hx : x < 256) (hv : v < 8) : withB x v b < 256 := by
  have h2 : 2 ^ v < 2 ^ 8 := Nat.pow_lt_pow_right (by omega) hv
  have h1 : x ||| 2 ^ v < 2 ^ 8 := Nat.or_lt_two_pow (by omega) h2
  unfold withB
  cases b
  · rw [if_neg (by simp)]; exact Nat.xor_lt_two_pow h1 h2
  · rw [if_pos rfl]; exact h1

theorem bv8 (a : Nat) (ha : a < 256) : (BitVec.ofInt 8 (a : Int)).toNat = a := by
  rw [BitVec.ofInt_natCast, BitVec.toNat_ofNat]; exact Nat.mod_eq_of_lt (by omega)
theorem wrap_u8 (n : Int) : IntKind.u8.wrap n = n % 256 := by simp [IntKind.wrap, IntKind.bits, IntKind.signed]
theorem shl1_u8 (v : Nat) (hv : v < 8) : IntKind.u8.wrap (2 ^ v) = ((2 ^ v : Nat) : Int) := by
  rw [wrap_u8]
  have h : 2 ^ v < 2 ^ 8 := Nat.pow_lt_pow_right (by omega) hv
  have h2 : ((2 : Int) ^ v) = ((2 ^ v : Nat) : Int) := by rw [Int.natCast_pow]; rfl
  rw [h2]
  generalize 2 ^ v = a at *
  omega
theorem shl1_u8' (v : Nat) (hv : v < 8) : (2 : Int) ^ v % 256 = ((2 ^ v : Nat) : Int) := by rw [← wrap_u8, shl1_u8 v hv]
theorem bits_or_u8 (a b : Nat) (ha : a < 256) (hb : b < 256) : bits .or .u8 (a : Int) (b : Int) = ((a ||| b : Nat) : Int) := by
  have hx : a ||| b < 2 ^ 8 := Nat.or_lt_two_pow (by omega) (by omega)
  show IntKind.u8.wrap ((BitVec.ofInt 8 (a : Int) ||| BitVec.ofInt 8 (b : Int)).toNat : Int) = _
  rw [BitVec.toNat_or, bv8 a ha, bv8 b hb, wrap_u8]; omega
theorem bits_and_u8 (a b : Nat) (ha : a < 256) (hb : b < 256) : bits .and .u8 (a : Int) (b : Int) = ((a &&& b : Nat) : Int) := by
  have hx : a &&& b < 2 ^ 8 := Nat.and_lt_two_pow _ (by omega)
  show IntKind.u8.wrap ((BitVec.ofInt 8 (a : Int) &&& BitVec.ofInt 8 (b : Int)).toNat : Int) = _
  rw [BitVec.toNat_and, bv8 a ha, bv8 b hb, wrap_u8]; omega
theorem bits_andNot_u8 (x v : Nat) (ha : x < 256) (hv : v < 8) : bits .andNot .u8 (x : Int) ((2 ^ v : Nat) : Int) = ((withB x v false : Nat) : Int) := by
  have hb : 2 ^ v < 2 ^ 8 := Nat.pow_lt_pow_right (by omega) hv
  show IntKind.u8.wrap ((BitVec.ofInt 8 (x : Int) &&& ~~~BitVec.ofInt 8 ((2 ^ v : Nat) : Int)).toNat : Int) = _
  have e : (BitVec.ofInt 8 (x : Int) &&& ~~~BitVec.ofInt 8 ((2 ^ v : Nat) : Int)).toNat = withB x v false := by
    apply Nat.eq_of_testBit_eq
    intro j
    rw [testBit_withB, BitVec.testBit_toNat, BitVec.getLsbD_and, BitVec.getLsbD_not, ← BitVec.testBit_toNat, ← BitVec.testBit_toNat, bv8 x ha, bv8 _ hb, Nat.testBit_two_pow]
    by_cases h : v = j
    · subst h; simp
    · have h' : ¬ j = v := fun e => h e.symm
      by_cases hj : j < 8
      · simp [h, h', hj]
      · have : x.testBit j = false := Nat.testBit_lt_two_pow (Nat.lt_of_lt_of_le (show x < 2 ^ 8 from ha) (Nat.pow_le_pow_right (by omega) (by omega)))
        simp [this, h']
  rw [e, wrap_u8]
  have := withB_lt false ha hv
  omega
/-- The bit that '>> & 1 == 1' asks for. -/
theorem shr_and_u8 (x v : Nat) (hx : x < 256) (hv : v ≤ 8) : (bits .and .u8 ((x : Int) / (2 ^ v : Int)) 1 == 1) = x.testBit v := by
  have h2 : ((x : Int) / (2 ^ v : Int)) = ((x / 2 ^ v : Nat) : Int) := by rw [Int.natCast_ediv, Int.natCast_pow]; rfl
  have hle : x / 2 ^ v < 256 := Nat.lt_of_le_of_lt (Nat.div_le_self _ _) hx
  rw [h2, show (1 : Int) = ((1 : Nat) : Int) from rfl, bits_and_u8 _ _ hle (by omega), Nat.and_one_is_mod, Nat.testBit_eq_decide_div_mod_eq]
  simp only [Bool.beq_eq_decide_eq]
  congr 1
  rw [eq_iff_iff]; constructor <;> intro h <;> omega
theorem shr_and_u64 (x v : Nat) (hx : x < 18446744073709551616) : (bits .and .u64 ((x : Int) / (2 ^ v : Int)) 1 == 1) = x.testBit v := by
  have h2 : ((x : Int) / (2 ^ v : Int)) = ((x / 2 ^ v : Nat) : Int) := by rw [Int.natCast_ediv, Int.natCast_pow]; rfl
  have hle : x / 2 ^ v < 18446744073709551616 := Nat.lt_of_le_of_lt (Nat.div_le_self _ _) hx
  rw [h2, show (1 : Int) = ((1 : Nat) : Int) from rfl, bits_and_u64 _ _ hle (by omega), Nat.and_one_is_mod, Nat.testBit_eq_decide_div_mod_eq]
  simp only [Bool.beq_eq_decide_eq]
  congr 1
  rw [eq_iff_iff]; constructor <;> intro h <;> omega
end Go.Proofs.Ytmjpecjciibngaa
namespace Go.Proofs.Ytmjpecjciibngaa
open Go.RowKit
set_option linter.unusedVariables false

theorem tknown_any (v : Nat) (hv : v < 8) (w : World) : Calls Try.prog 66 #[.int .i64 (v : Int)] w fun e w' => e = .returned (.bool true) ∧ w = w' := by
  have h : decide ((v : Int) < 8) = true := by simp; omega
  go_enter Try.func66, Try.ntmps66
  go_wp2
  go_ret
  exact ⟨rfl, rfl⟩

theorem with_any (x v : Nat) (b : Bool) (hx : x < 256) (hv : v < 8) (w : World) :
    Calls Try.prog 86 #[.int .u8 (x : Int), .int .i64 (v : Int), .bool b] w fun e w' => e = .returned (.int .u8 (withB x v b : Nat)) ∧ w = w' := by
  have hp : 2 ^ v < 2 ^ 8 := Nat.pow_lt_pow_right (by omega) hv
  cases b
  · go_enter Try.func86, Try.ntmps86
    go_wp2
    go_ret
    exact ⟨ret_int (by rw [shl1_u8' v hv, bits_andNot_u8 x v hx hv]), rfl⟩
  · go_enter Try.func86, Try.ntmps86
    go_wp2
    go_ret
    exact ⟨ret_int (by rw [shl1_u8' v hv, bits_or_u8 x _ hx hp]; rfl), rfl⟩

theorem eval_any (f : Nat → Bool) (x : Nat) (hx : x < 256) (w : World) :
    Calls Try.prog 85 #[tabV f, .int .u8 (x : Int)] w fun e w' => e = .returned (.bool (f x)) ∧ Below w.heap.size w w' := by
  have hb := Blk.new w 29 (tabCells f)
  have hc := (hb.cell (x / 64)).trans (tabCells_get f (show x / 64 < 4 by omega))
  have hbit : (bits .and .u64 (((wd f (x / 64) : Nat) : Int) / (2 ^ (x % 64) : Int)) 1 == 1) = f x := by
    rw [shr_and_u64 _ _ (wd_lt _ _), testBit_wd, show 64 * (x / 64) + x % 64 = x by omega]
    simp; omega
  have HB := Lib.hid hbit; clear hbit hb
  unfold tabV
  unfold tabCells at hc ⊢
  go_enter Try.func85, Try.ntmps85
  go_wp2
  go_ret
  exact ⟨ret_bool HB.out, (Below.refl _ _).alloc (Nat.le_refl _) _⟩

/-- What Fix asks of each assignment. -/
theorem fix1_any (f : Nat → Bool) (v x : Nat) (b : Bool) (hv : v < 8) (hx : x < 256) (b1 b2 b3 : Nat) (w : World) (h1 : Blk w b1 29 (tabCells f))
    (h2 : w.cell? ⟨b2, 0, none⟩ = some (.int .i64 (v : Int))) (h3 : w.cell? ⟨b3, 0, none⟩ = some (.bool b)) :
    Calls Try.prog 84 #[.int .u8 (x : Int), .pointer (some ⟨b1, 0, none⟩), .pointer (some ⟨b2, 0, none⟩), .pointer (some ⟨b3, 0, none⟩)] w fun e w' => e = .returned (.bool (f (withB x v b))) ∧ Below w.heap.size w w' := by
  have a0 := (h1.cell 0).trans (tabCells_get f (by omega))
  have a1 := (h1.cell 1).trans (tabCells_get f (by omega))
  have a2 := (h1.cell 2).trans (tabCells_get f (by omega))
  have a3 := (h1.cell 3).trans (tabCells_get f (by omega))
  have l1 := h1.lt
  have l2 := World.block_lt_of_cell? _ _ h2
  have l3 := World.block_lt_of_cell? _ _ h3
  clear h1
  go_enter Try.func84, Try.ntmps84
  go_wp2
  go_region_held3 (fun w' => Below w.heap.size w w' ∧ ∀ p : Addr, p.block < w.heap.size → w'.cell? p = w.cell? p)
    (first
      | exact ⟨(Below.refl _ _).drew, fun _ _ => rfl⟩
      | assumption
      | exact ⟨hb2.of_drew, fun p hp => hb2.of_drew.cell hp⟩)
    (first
      | (go_at_call 86; refine (with_any x v b hx hv _).mono ?_; rintro e w2 ⟨rfl, rfl⟩)
      | (go_at_call 85; refine (eval_any f _ (withB_lt b hx hv) _).mono ?_; rintro e w2 ⟨rfl, hb2⟩))
  go_wp2
  go_ret
  exact ⟨rfl, hb2.of_drew⟩

theorem var1_any (v x : Nat) (hv : v < 8) (hx : x < 256) (b1 : Nat) (w : World) (h1 : w.cell? ⟨b1, 0, none⟩ = some (.int .i64 (v : Int))) :
    Calls Try.prog 65 #[.int .u8 (x : Int), .pointer (some ⟨b1, 0, none⟩)] w fun e w' => e = .returned (.bool (x.testBit v)) ∧ Below w.heap.size w w' := by
  have hbit := Lib.hid (shr_and_u8 x v hx (by omega))
  go_enter Try.func65, Try.ntmps65
  go_wp2_with (go_at_call 66; refine (tknown_any v hv _).mono ?_; rintro e w2 ⟨rfl, rfl⟩)
  go_ret
  exact ⟨ret_bool hbit.out, Below.refl _ _⟩

theorem const1_any (b : Bool) (x : Nat) (b1 : Nat) (w : World) (h1 : w.cell? ⟨b1, 0, none⟩ = some (.bool b)) :
    Calls Try.prog 67 #[.int .u8 (x : Int), .pointer (some ⟨b1, 0, none⟩)] w fun e w' => e = .returned (.bool b) ∧ Below w.heap.size w w' := by
  go_enter Try.func67, Try.ntmps67
  go_wp2
  go_ret
  exact ⟨rfl, Below.refl _ _⟩

theorem enters_var1 (args : Array Value) (W : World) : (callFunc 65 args).run Try.prog W = .ok (.enter 65 args) W := by rfl
theorem enters_const1 (args : Array Value) (W : World) : (callFunc 67 args).run Try.prog W = .ok (.enter 67 args) W := by rfl
theorem enters_fix1 (args : Array Value) (W : World) : (callFunc 84 args).run Try.prog W = .ok (.enter 84 args) W := by rfl

theorem tvar_any (v : Nat) (hv : v < 8) (w : World) : Calls Try.prog 45 #[.int .i64 (v : Int)] w fun e w' => e = .returned (tabV fun x => x.testBit v) ∧ Below w.heap.size w w' := by
  go_enter Try.func45, Try.ntmps45
  go_wp2_with fail
  refine (of_any 65 _ (fun x => x.testBit v) _ enters_var1 ?_).mono ?_
  · intro x w1 hx hb1
    exact var1_any v x hv hx w.heap.size w1 ((((Blk.new w _ #[.int .i64 (v : Int)]).alloc _).keep hb1).cell 0)
  rintro e w2 ⟨rfl, hb2⟩
  have R2 := (Blk.new1 w _ _ _).keep hb2
  obtain ⟨⟨c0, c1, c2, c3⟩, f0, f1, f2, f3⟩ := R2.four
  have HR := Lib.hid R2; clear R2
  unfold tabV tabCells
  go_wp2_with fail
  exact ret_tab rfl _ _ rfl rfl (HR.out.put4 _ _ _ _) ⟨rfl, ((below2 w _ _).step hb2).put4 (by omega) _ _ _ _⟩

theorem tconst_any (b : Bool) (w : World) : Calls Try.prog 46 #[.bool b] w fun e w' => e = .returned (tabV fun _ => b) ∧ Below w.heap.size w w' := by
  go_enter Try.func46, Try.ntmps46
  go_wp2_with fail
  refine (of_any 67 _ (fun _ => b) _ enters_const1 ?_).mono ?_
  · intro x w1 hx hb1
    exact const1_any b x w.heap.size w1 ((((Blk.new w _ #[.bool b]).alloc _).keep hb1).cell 0)
  rintro e w2 ⟨rfl, hb2⟩
  have R2 := (Blk.new1 w _ _ _).keep hb2
  obtain ⟨⟨c0, c1, c2, c3⟩, f0, f1, f2, f3⟩ := R2.four
  have HR := Lib.hid R2; clear R2
  unfold tabV tabCells
  go_wp2_with fail
  exact ret_tab rfl _ _ rfl rfl (HR.out.put4 _ _ _ _) ⟨rfl, ((below2 w _ _).step hb2).put4 (by omega) _ _ _ _⟩

def fixF (f : Nat → Bool) (v : Nat) (b : Bool) : Nat → Bool := fun x => f (withB x v b)

theorem tfix_any (f : Nat → Bool) (v : Nat) (hv : v < 8) (b : Bool) (w : World) : Calls Try.prog 81 #[tabV f, .int .i64 (v : Int), .bool b] w fun e w' => e = .returned (tabV (fixF f v b)) ∧ Below w.heap.size w w' := by
  unfold tabV tabCells
  go_enter Try.func81, Try.ntmps81
  go_wp2_with fail
  refine (tknown_any v hv _).mono ?_
  rintro e w1 ⟨rfl, rfl⟩
  go_wp2_with fail
  refine (of_any 84 _ (fixF f v b) _ enters_fix1 ?_).mono ?_
  · intro x w1 hx hb1
    exact fix1_any f v x b hv hx w.heap.size (w.heap.size + 1) (w.heap.size + 1 + 1) w1 (((((Blk.new w _ (tabCells f)).alloc _).alloc _).alloc _).keep hb1)
      (((((Blk.new1 w _ _ #[.int .i64 (v : Int)]).alloc _).alloc _).keep hb1).cell 0) ((((Blk.new2 w _ _ _ #[.bool b]).alloc _).keep hb1).cell 0)
  rintro e w2 ⟨rfl, hb2⟩
  have R2 := (Blk.new3 w _ _ _ _ _).keep hb2
  obtain ⟨⟨c0, c1, c2, c3⟩, f0, f1, f2, f3⟩ := R2.four
  have HR := Lib.hid R2; clear R2
  unfold tabV tabCells
  go_wp2_with fail
  exact ret_tab rfl _ _ rfl rfl (HR.out.put4 _ _ _ _) ⟨rfl, ((below4 w _ _ _ _).step hb2).put4 (by omega) _ _ _ _⟩
end Go.Proofs.Ytmjpecjciibngaa
namespace Go.Proofs.Ytmjpecjciibngaa
open Go.RowKit
set_option linter.unusedVariables false

/-- The table whose words below k are joined. -/
def joinTo (J : Nat → Nat → Nat) (f g : Nat → Bool) (k i : Nat) : Nat := if i < k then J (wd f i) (wd g i) else wd f i
def wordCells (n : Nat → Nat) : Array Value := #[.int .u64 (n 0 : Nat), .int .u64 (n 1 : Nat), .int .u64 (n 2 : Nat), .int .u64 (n 3 : Nat)]
theorem wordCells_get (n : Nat → Nat) {i : Nat} (hi : i < 4) : (wordCells n)[i]? = some (.int .u64 (n i : Nat)) := by
  match i, hi with
  | 0, _ => rfl
  | 1, _ => rfl
  | 2, _ => rfl
  | 3, _ => rfl
theorem joinTo_zero (J : Nat → Nat → Nat) (f g : Nat → Bool) : wordCells (joinTo J f g 0) = tabCells f := by simp [wordCells, tabCells, joinTo]
theorem joinTo_set (J : Nat → Nat → Nat) (f g : Nat → Bool) (k : Nat) (hk : k < 4) :
    (wordCells (joinTo J f g k)).setIfInBounds k (.int .u64 (J (wd f k) (wd g k) : Nat)) = wordCells (joinTo J f g (k + 1)) := by
  have h4 : k = 0 ∨ k = 1 ∨ k = 2 ∨ k = 3 := by omega
  rcases h4 with rfl | rfl | rfl | rfl <;> simp [wordCells, joinTo]
theorem joinTo_all (J : Nat → Nat → Nat) (f g h : Nat → Bool) (hJ : ∀ i, i < 4 → J (wd f i) (wd g i) = wd h i) : wordCells (joinTo J f g 4) = tabCells h := by
  simp [wordCells, tabCells, joinTo, hJ 0 (by omega), hJ 1 (by omega), hJ 2 (by omega), hJ 3 (by omega)]

set_option maxRecDepth 100000 in
set_option maxHeartbeats 1000000 in
theorem each_any (fid : Nat) (J : Nat → Nat → Nat) (f g h : Nat → Bool) (w : World) (hent : ∀ args W, (callFunc fid args).run Try.prog W = .ok (.enter fid args) W)
    (hcall : ∀ (i : Nat) (w1 : World), i < 4 → Calls Try.prog fid #[.int .u64 (wd f i : Nat), .int .u64 (wd g i : Nat)] w1 fun e w2 => e = .returned (.int .u64 (J (wd f i) (wd g i) : Nat)) ∧ w1 = w2)
    (hJ : ∀ i, i < 4 → J (wd f i) (wd g i) = wd h i) :
    Calls Try.prog 68 #[tabV f, tabV g, .func (.func fid) #[] #[]] w fun e w' => e = .returned (tabV h) ∧ Below w.heap.size w w' := by
  have HC := Lib.hid hcall; clear hcall
  have HJ := Lib.hid hJ; clear hJ
  unfold tabV tabCells
  go_enter Try.func68, Try.ntmps68
  go_wp2_with fail
  go_loopw [8] (fun i wr => ∃ k : Nat, k ≤ 4 ∧ i = .int .i64 k ∧ Below w.heap.size w wr ∧ w.heap.size + 1 + 1 < wr.heap.size ∧ Blk wr w.heap.size 29 (wordCells (joinTo J f g k)) ∧ Blk wr (w.heap.size + 1) 29 (tabCells g) ∧ Blk wr (w.heap.size + 1 + 1) 29 zeroTab) (fun i _ => 4 - (intOf i).toNat)
  case atStart =>
    refine ⟨0, by omega, rfl, below3 _ _ _ _, by simp, ?_, (Blk.new1 w _ _ _).alloc _, Blk.new2 w _ _ _ _⟩
    rw [joinTo_zero]
    exact ((Blk.new w _ _).alloc _).alloc _
  case round =>
    obtain ⟨k, hk, rfl, hb, hsz, hF, hG, hZ⟩ := hrel
    by_cases hlt : k < 4
    · have cf := (hF.cell k).trans (wordCells_get _ hlt)
      have cg := (hG.cell k).trans (tabCells_get g hlt)
      have ff := hF.free k
      simp only [joinTo, Nat.lt_irrefl, if_false] at cf
      have HF := Lib.hid hF; clear hF
      have HG := Lib.hid hG; clear hG
      have HZ := Lib.hid hZ; clear hZ
      have hk0 : (0 : Int) ≤ (k : Int) := by omega
      have hk4 : (k : Int) < 4 := by omega
      go_wp2_with fail
      go_still_tail 9, (by kernel_rfl)
      still_call ((HC.out k _ hlt).mono fun e w' h => ⟨h.1, h.2.symm⟩)
      repeat still_step
      refine wpStill_nil ?_
      go_wp2_with fail
      go_roundw
      case rel =>
        refine ⟨k + 1, by omega, by go_num, (hb.drew).setCell (p := ⟨w.heap.size, k, none⟩) (by simp) _, by simp; omega, ?_, (HG.out.drew).far (p := ⟨w.heap.size, k, none⟩) (by simp) _, (HZ.out.drew).far (p := ⟨w.heap.size, k, none⟩) (by simp; omega) _⟩
        rw [← joinTo_set J f g k hlt]
        exact (HF.out.drew).set _ _
      case measure => simp [intOf]; omega
    · obtain rfl : k = 4 := by omega
      rw [joinTo_all J f g h HJ.out] at hF
      obtain ⟨⟨a0, a1, a2, a3⟩, f0, f1, f2, f3⟩ := Blk.four hF
      obtain ⟨⟨c0, c1, c2, c3⟩, g0, g1, g2, g3⟩ := Blk.four hZ
      have HF := Lib.hid hF; clear hF
      have HG := Lib.hid hG; clear hG
      have HZ := Lib.hid hZ; clear hZ
      go_wp2_with fail
      exact ret_tab rfl _ _ rfl rfl (HZ.out.put4 _ _ _ _) ⟨rfl, hb.put4 (by omega) _ _ _ _⟩
end Go.Proofs.Ytmjpecjciibngaa
namespace Go.Proofs.Ytmjpecjciibngaa
open Go.RowKit
set_option linter.unusedVariables false

theorem and1_any (a b : Nat) (ha : a < 18446744073709551616) (hb : b < 18446744073709551616) (w : World) :
    Calls Try.prog 80 #[.int .u64 (a : Int), .int .u64 (b : Int)] w fun e w' => e = .returned (.int .u64 ((a &&& b : Nat) : Int)) ∧ w = w' := by
  go_enter Try.func80, Try.ntmps80
  go_wp2
  go_ret
  exact ⟨ret_int (bits_and_u64 a b ha hb), rfl⟩
theorem enters_and1 (args : Array Value) (W : World) : (callFunc 80 args).run Try.prog W = .ok (.enter 80 args) W := by rfl
theorem tand_any (f g : Nat → Bool) (w : World) : Calls Try.prog 71 #[tabV f, tabV g] w fun e w' => e = .returned (tabV fun x => f x && g x) ∧ Below w.heap.size w w' := by
  unfold tabV tabCells
  go_enter Try.func71, Try.ntmps71
  go_wp2_with fail
  refine (each_any 80 (fun a b => a &&& b) f g _ _ enters_and1 (fun i w1 _ => and1_any _ _ (wd_lt _ _) (wd_lt _ _) w1) (fun i _ => wd_and f g i)).mono ?_
  rintro e w2 ⟨rfl, hb2⟩
  have R2 := (Blk.new2 w _ _ _ _).keep hb2
  obtain ⟨⟨c0, c1, c2, c3⟩, f0, f1, f2, f3⟩ := R2.four
  have HR := Lib.hid R2; clear R2
  unfold tabV tabCells
  go_wp2_with fail
  exact ret_tab rfl _ _ rfl rfl (HR.out.put4 _ _ _ _) ⟨rfl, ((below3 w _ _ _).step hb2).put4 (by omega) _ _ _ _⟩

theorem or1_any (a b : Nat) (ha : a < 18446744073709551616) (hb : b < 18446744073709551616) (w : World) :
    Calls Try.prog 79 #[.int .u64 (a : Int), .int .u64 (b : Int)] w fun e w' => e = .returned (.int .u64 ((a ||| b : Nat) : Int)) ∧ w = w' := by
  go_enter Try.func79, Try.ntmps79
  go_wp2
  go_ret
  exact ⟨ret_int (bits_or_u64 a b ha hb), rfl⟩
theorem enters_or1 (args : Array Value) (W : World) : (callFunc 79 args).run Try.prog W = .ok (.enter 79 args) W := by rfl
theorem tor_any (f g : Nat → Bool) (w : World) : Calls Try.prog 70 #[tabV f, tabV g] w fun e w' => e = .returned (tabV fun x => f x || g x) ∧ Below w.heap.size w w' := by
  unfold tabV tabCells
  go_enter Try.func70, Try.ntmps70
  go_wp2_with fail
  refine (each_any 79 (fun a b => a ||| b) f g _ _ enters_or1 (fun i w1 _ => or1_any _ _ (wd_lt _ _) (wd_lt _ _) w1) (fun i _ => wd_or f g i)).mono ?_
  rintro e w2 ⟨rfl, hb2⟩
  have R2 := (Blk.new2 w _ _ _ _).keep hb2
  obtain ⟨⟨c0, c1, c2, c3⟩, f0, f1, f2, f3⟩ := R2.four
  have HR := Lib.hid R2; clear R2
  unfold tabV tabCells
  go_wp2_with fail
  exact ret_tab rfl _ _ rfl rfl (HR.out.put4 _ _ _ _) ⟨rfl, ((below3 w _ _ _).step hb2).put4 (by omega) _ _ _ _⟩

theorem xor1_any (a b : Nat) (ha : a < 18446744073709551616) (hb : b < 18446744073709551616) (w : World) :
    Calls Try.prog 82 #[.int .u64 (a : Int), .int .u64 (b : Int)] w fun e w' => e = .returned (.int .u64 ((a ^^^ b : Nat) : Int)) ∧ w = w' := by
  go_enter Try.func82, Try.ntmps82
  go_wp2
  go_ret
  exact ⟨ret_int (bits_xor_u64 a b ha hb), rfl⟩
theorem enters_xor1 (args : Array Value) (W : World) : (callFunc 82 args).run Try.prog W = .ok (.enter 82 args) W := by rfl
theorem txor_any (f g : Nat → Bool) (w : World) : Calls Try.prog 73 #[tabV f, tabV g] w fun e w' => e = .returned (tabV fun x => f x ^^ g x) ∧ Below w.heap.size w w' := by
  unfold tabV tabCells
  go_enter Try.func73, Try.ntmps73
  go_wp2_with fail
  refine (each_any 82 (fun a b => a ^^^ b) f g _ _ enters_xor1 (fun i w1 _ => xor1_any _ _ (wd_lt _ _) (wd_lt _ _) w1) (fun i _ => wd_xor f g i)).mono ?_
  rintro e w2 ⟨rfl, hb2⟩
  have R2 := (Blk.new2 w _ _ _ _).keep hb2
  obtain ⟨⟨c0, c1, c2, c3⟩, f0, f1, f2, f3⟩ := R2.four
  have HR := Lib.hid R2; clear R2
  unfold tabV tabCells
  go_wp2_with fail
  exact ret_tab rfl _ _ rfl rfl (HR.out.put4 _ _ _ _) ⟨rfl, ((below3 w _ _ _).step hb2).put4 (by omega) _ _ _ _⟩

theorem not1_any (a b : Nat) (ha : a < 18446744073709551616) (w : World) :
    Calls Try.prog 69 #[.int .u64 (a : Int), .int .u64 (b : Int)] w fun e w' => e = .returned (.int .u64 ((18446744073709551615 ^^^ a : Nat) : Int)) ∧ w = w' := by
  have h : bits .xor .u64 (IntKind.u64.max) (a : Int) = ((18446744073709551615 ^^^ a : Nat) : Int) := by
    rw [show IntKind.u64.max = ((18446744073709551615 : Nat) : Int) from rfl]
    exact bits_xor_u64 _ a (by omega) ha
  have H := Lib.hid h; clear h
  go_enter Try.func69, Try.ntmps69
  go_wp2
  go_ret
  exact ⟨ret_int H.out, rfl⟩
theorem enters_not1 (args : Array Value) (W : World) : (callFunc 69 args).run Try.prog W = .ok (.enter 69 args) W := by rfl
theorem tnot_any (f : Nat → Bool) (w : World) : Calls Try.prog 47 #[tabV f] w fun e w' => e = .returned (tabV fun x => !f x) ∧ Below w.heap.size w w' := by
  unfold tabV tabCells
  go_enter Try.func47, Try.ntmps47
  go_wp2_with fail
  refine (each_any 69 (fun a b => 18446744073709551615 ^^^ a) f f _ _ enters_not1 (fun i w1 _ => not1_any _ _ (wd_lt _ _) w1) (fun i _ => wd_not f i)).mono ?_
  rintro e w2 ⟨rfl, hb2⟩
  have R2 := (Blk.new1 w _ _ _).keep hb2
  obtain ⟨⟨c0, c1, c2, c3⟩, f0, f1, f2, f3⟩ := R2.four
  have HR := Lib.hid R2; clear R2
  unfold tabV tabCells
  go_wp2_with fail
  exact ret_tab rfl _ _ rfl rfl (HR.out.put4 _ _ _ _) ⟨rfl, ((below2 w _ _).step hb2).put4 (by omega) _ _ _ _⟩
end Go.Proofs.Ytmjpecjciibngaa
namespace Go.Proofs.Ytmjpecjciibngaa
open Go.RowKit
set_option linter.unusedVariables false

set_option maxRecDepth 100000 in
set_option maxHeartbeats 4000000 in
theorem tite_any (f g h : Nat → Bool) (w : World) : Calls Try.prog 48 #[tabV f, tabV g, tabV h] w fun e w' => e = .returned (tabV fun x => (f x && g x) || (!f x && h x)) ∧ Below w.heap.size w w' := by
  unfold tabV tabCells
  go_enter Try.func48, Try.ntmps48
  go_wp2_with fail
  obtain ⟨W, hW⟩ : ∃ W : World, W = (((w.alloc (.cells (tabCells f) 29)).alloc (.cells (tabCells g) 29)).alloc (.cells (tabCells h) 29)).alloc (.cells zeroTab 29) := ⟨_, rfl⟩
  have hB : Below w.heap.size w W := hW ▸ below4 w _ _ _ _
  have hsz : w.heap.size + 3 < W.heap.size := by rw [hW]; simp
  obtain ⟨⟨a0, a1, a2, a3⟩, _, _, _, _⟩ := Blk.four (show Blk W w.heap.size 29 (tabCells f) from hW ▸ ((((Blk.new w _ _).alloc _).alloc _).alloc _))
  obtain ⟨⟨b0, b1, b2, b3⟩, _, _, _, _⟩ := Blk.four (show Blk W (w.heap.size + 1) 29 (tabCells g) from hW ▸ (((Blk.new1 w _ _ _).alloc _).alloc _))
  obtain ⟨⟨d0, d1, d2, d3⟩, _, _, _, _⟩ := Blk.four (show Blk W (w.heap.size + 1 + 1) 29 (tabCells h) from hW ▸ ((Blk.new2 w _ _ _ _).alloc _))
  have HZ := Lib.hid (show Blk W (w.heap.size + 1 + 1 + 1) 29 zeroTab from hW ▸ (Blk.new3 w _ _ _ _ _))
  unfold tabCells zeroTab at hW
  rw [← hW]
  clear hW
  go_region_held3 (fun w' => ∀ p : Addr, p.block < w.heap.size + 3 → w'.cell? p = W.cell? p)
    (first
      | with_reducible exact fun p hp => hb1.of_drew.cell (by omega)
      | with_reducible exact fun p hp => (hb1.of_drew.step hb2).cell (by omega)
      | with_reducible exact fun p hp => ((hb1.of_drew.step hb2).step hb3).cell (by omega)
      | with_reducible exact fun p hp => hB4.cell (by omega)
      | (intro p hp; rw [cell_put4 (by omega)]; exact hB4.cell (by omega))
      | exact fun _ _ => rfl)
    (first
      | (go_at_call 71; (with_reducible refine (tand_any f g _).mono ?_); rintro e w1 ⟨rfl, hb1⟩)
      | (go_at_call 71; (with_reducible refine (tand_any (fun x => !f x) h _).mono ?_); rintro e w3 ⟨rfl, hb3⟩)
      | (go_at_call 47; (with_reducible refine (tnot_any f _).mono ?_); rintro e w2 ⟨rfl, hb2⟩)
      | (go_at_call 70; (with_reducible refine (tor_any (fun x => f x && g x) (fun x => !f x && h x) _).mono ?_); rintro e w4 ⟨rfl, hb4⟩;
         have hB4 := ((hb1.of_drew.step hb2).step hb3).step hb4; have R4 := HZ.out.keep hB4; obtain ⟨⟨c0, c1, c2, c3⟩, f0, f1, f2, f3⟩ := R4.four; have HR := Lib.hid R4; clear R4; unfold tabV tabCells))
  go_wp2_with fail
  exact ret_tab rfl _ _ rfl rfl (HR.out.put4 _ _ _ _) ⟨rfl, (hB.step hB4).put4 (by omega) _ _ _ _⟩
end Go.Proofs.Ytmjpecjciibngaa
