/- The function values of package truth, and what they call. -/
import Derived.Test.YtmjpecjciibngaaTruth
import Derived.StillTailTactics
namespace Go.Proofs.Ytmjpecjciibngaa
open Go.RowKit
set_option linter.unusedVariables false

theorem tknown_any (v : Nat) (hv : v < 8) (w : World) : Calls Try.prog 66 #[.int .i64 (v : Int)] w fun e w' => e = .returned (.bool true) ∧ w = w' := by
  have h : decide ((v : Int) < 8) = true := by simp; omega
  go_enter Try.func66, Try.ntmps66
  go_wp2
  go_ret
  exact ⟨rfl, rfl⟩

theorem with_any (x v : Nat) (b : Bool) (hx : x < 256) (hv : v < 8) (w : World) :
    Calls Try.prog 86 #[.int .u8 (x : Int), .int .i64 (v : Int), .bool b] w fun e w' => e = .returned (.int .u8 (withB x v b : Nat)) ∧ w = w' := by
  have hp : 2 ^ v < 2 ^ 8 := Nat.pow_lt_pow_right (by omega) hv
  cases b
  · go_enter Try.func86, Try.ntmps86
    go_wp2
    go_ret
    exact ⟨ret_int (by rw [shl1_u8' v hv, bits_andNot_u8 x v hx hv]), rfl⟩
  · go_enter Try.func86, Try.ntmps86
    go_wp2
    go_ret
    exact ⟨ret_int (by rw [shl1_u8' v hv, bits_or_u8 x _ hx hp]; rfl), rfl⟩

theorem eval_any (f : Nat → Bool) (x : Nat) (hx : x < 256) (w : World) :
    Calls Try.prog 85 #[tabV f, .int .u8 (x : Int)] w fun e w' => e = .returned (.bool (f x)) ∧ Below w.heap.size w w' := by
  have hb := Blk.new w 29 (tabCells f)
  have hc := (hb.cell (x / 64)).trans (tabCells_get f (show x / 64 < 4 by omega))
  have hbit : (bits .and .u64 (((wd f (x / 64) : Nat) : Int) / (2 ^ (x % 64) : Int)) 1 == 1) = f x := by
    rw [shr_and_u64 _ _ (wd_lt _ _), testBit_wd, show 64 * (x / 64) + x % 64 = x by omega]
    simp; omega
  have HB := Lib.hid hbit; clear hbit hb
  unfold tabV
  unfold tabCells at hc ⊢
  go_enter Try.func85, Try.ntmps85
  go_wp2
  go_ret
  exact ⟨ret_bool HB.out, (Below.refl _ _).alloc (Nat.le_refl _) _⟩

/-- What Fix asks of each assignment. -/
theorem fix1_any (f : Nat → Bool) (v x : Nat) (b : Bool) (hv : v < 8) (hx : x < 256) (b1 b2 b3 : Nat) (w : World) (h1 : Blk w b1 29 (tabCells f))
    (h2 : w.cell? ⟨b2, 0, none⟩ = some (.int .i64 (v : Int))) (h3 : w.cell? ⟨b3, 0, none⟩ = some (.bool b)) :
    Calls Try.prog 84 #[.int .u8 (x : Int), .pointer (some ⟨b1, 0, none⟩), .pointer (some ⟨b2, 0, none⟩), .pointer (some ⟨b3, 0, none⟩)] w fun e w' => e = .returned (.bool (f (withB x v b))) ∧ Below w.heap.size w w' := by
  have a0 := (h1.cell 0).trans (tabCells_get f (by omega))
  have a1 := (h1.cell 1).trans (tabCells_get f (by omega))
  have a2 := (h1.cell 2).trans (tabCells_get f (by omega))
  have a3 := (h1.cell 3).trans (tabCells_get f (by omega))
  have l1 := h1.lt
  have l2 := World.block_lt_of_cell? _ _ h2
  have l3 := World.block_lt_of_cell? _ _ h3
  clear h1
  go_enter Try.func84, Try.ntmps84
  go_wp2
  go_region_held3 (fun w' => Below w.heap.size w w' ∧ ∀ p : Addr, p.block < w.heap.size → w'.cell? p = w.cell? p)
    (first
      | exact ⟨(Below.refl _ _).drew, fun _ _ => rfl⟩
      | assumption
      | exact ⟨hb2.of_drew, fun p hp => hb2.of_drew.cell hp⟩)
    (first
      | (go_at_call 86; refine (with_any x v b hx hv _).mono ?_; rintro e w2 ⟨rfl, rfl⟩)
      | (go_at_call 85; refine (eval_any f _ (withB_lt b hx hv) _).mono ?_; rintro e w2 ⟨rfl, hb2⟩))
  go_wp2
  go_ret
  exact ⟨rfl, hb2.of_drew⟩

theorem var1_any (v x : Nat) (hv : v < 8) (hx : x < 256) (b1 : Nat) (w : World) (h1 : w.cell? ⟨b1, 0, none⟩ = some (.int .i64 (v : Int))) :
    Calls Try.prog 65 #[.int .u8 (x : Int), .pointer (some ⟨b1, 0, none⟩)] w fun e w' => e = .returned (.bool (x.testBit v)) ∧ Below w.heap.size w w' := by
  have hbit := Lib.hid (shr_and_u8 x v hx (by omega))
  go_enter Try.func65, Try.ntmps65
  go_wp2_with (go_at_call 66; refine (tknown_any v hv _).mono ?_; rintro e w2 ⟨rfl, rfl⟩)
  go_ret
  exact ⟨ret_bool hbit.out, Below.refl _ _⟩

theorem const1_any (b : Bool) (x : Nat) (b1 : Nat) (w : World) (h1 : w.cell? ⟨b1, 0, none⟩ = some (.bool b)) :
    Calls Try.prog 67 #[.int .u8 (x : Int), .pointer (some ⟨b1, 0, none⟩)] w fun e w' => e = .returned (.bool b) ∧ Below w.heap.size w w' := by
  go_enter Try.func67, Try.ntmps67
  go_wp2
  go_ret
  exact ⟨rfl, Below.refl _ _⟩

theorem enters_var1 (args : Array Value) (W : World) : (callFunc 65 args).run Try.prog W = .ok (.enter 65 args) W := by rfl
theorem enters_const1 (args : Array Value) (W : World) : (callFunc 67 args).run Try.prog W = .ok (.enter 67 args) W := by rfl
theorem enters_fix1 (args : Array Value) (W : World) : (callFunc 84 args).run Try.prog W = .ok (.enter 84 args) W := by rfl

theorem tvar_any (v : Nat) (hv : v < 8) (w : World) : Calls Try.prog 45 #[.int .i64 (v : Int)] w fun e w' => e = .returned (tabV fun x => x.testBit v) ∧ Below w.heap.size w w' := by
  go_enter Try.func45, Try.ntmps45
  go_wp2_with fail
  refine (of_any 65 _ (fun x => x.testBit v) _ enters_var1 ?_).mono ?_
  · intro x w1 hx hb1
    exact var1_any v x hv hx w.heap.size w1 ((((Blk.new w _ #[.int .i64 (v : Int)]).alloc _).keep hb1).cell 0)
  rintro e w2 ⟨rfl, hb2⟩
  have R2 := (Blk.new1 w _ _ _).keep hb2
  obtain ⟨⟨c0, c1, c2, c3⟩, f0, f1, f2, f3⟩ := R2.four
  have HR := Lib.hid R2; clear R2
  unfold tabV tabCells
  go_wp2_with fail
  exact ret_tab rfl _ _ rfl rfl (HR.out.put4 _ _ _ _) ⟨rfl, ((below2 w _ _).step hb2).put4 (by omega) _ _ _ _⟩

theorem tconst_any (b : Bool) (w : World) : Calls Try.prog 46 #[.bool b] w fun e w' => e = .returned (tabV fun _ => b) ∧ Below w.heap.size w w' := by
  go_enter Try.func46, Try.ntmps46
  go_wp2_with fail
  refine (of_any 67 _ (fun _ => b) _ enters_const1 ?_).mono ?_
  · intro x w1 hx hb1
    exact const1_any b x w.heap.size w1 ((((Blk.new w _ #[.bool b]).alloc _).keep hb1).cell 0)
  rintro e w2 ⟨rfl, hb2⟩
  have R2 := (Blk.new1 w _ _ _).keep hb2
  obtain ⟨⟨c0, c1, c2, c3⟩, f0, f1, f2, f3⟩ := R2.four
  have HR := Lib.hid R2; clear R2
  unfold tabV tabCells
  go_wp2_with fail
  exact ret_tab rfl _ _ rfl rfl (HR.out.put4 _ _ _ _) ⟨rfl, ((below2 w _ _).step hb2).put4 (by omega) _ _ _ _⟩

def fixF (f : Nat → Bool) (v : Nat) (b : Bool) : Nat → Bool := fun x => f (withB x v b)

theorem tfix_any (f : Nat → Bool) (v : Nat) (hv : v < 8) (b : Bool) (w : World) : Calls Try.prog 81 #[tabV f, .int .i64 (v : Int), .bool b] w fun e w' => e = .returned (tabV (fixF f v b)) ∧ Below w.heap.size w w' := by
  unfold tabV tabCells
  go_enter Try.func81, Try.ntmps81
  go_wp2_with fail
  refine (tknown_any v hv _).mono ?_
  rintro e w1 ⟨rfl, rfl⟩
  go_wp2_with fail
  refine (of_any 84 _ (fixF f v b) _ enters_fix1 ?_).mono ?_
  · intro x w1 hx hb1
    exact fix1_any f v x b hv hx w.heap.size (w.heap.size + 1) (w.heap.size + 1 + 1) w1 (((((Blk.new w _ (tabCells f)).alloc _).alloc _).alloc _).keep hb1)
      (((((Blk.new1 w _ _ #[.int .i64 (v : Int)]).alloc _).alloc _).keep hb1).cell 0) ((((Blk.new2 w _ _ _ #[.bool b]).alloc _).keep hb1).cell 0)
  rintro e w2 ⟨rfl, hb2⟩
  have R2 := (Blk.new3 w _ _ _ _ _).keep hb2
  obtain ⟨⟨c0, c1, c2, c3⟩, f0, f1, f2, f3⟩ := R2.four
  have HR := Lib.hid R2; clear R2
  unfold tabV tabCells
  go_wp2_with fail
  exact ret_tab rfl _ _ rfl rfl (HR.out.put4 _ _ _ _) ⟨rfl, ((below4 w _ _ _ _).step hb2).put4 (by omega) _ _ _ _⟩
end Go.Proofs.Ytmjpecjciibngaa
