/- The package truth, exported: not, and, or, xor, ite. -/
import Derived.Test.YtmjpecjciibngaaTruth3
namespace Go.Proofs.Ytmjpecjciibngaa
open Go.RowKit
set_option linter.unusedVariables false

theorem and1_any (a b : Nat) (ha : a < 18446744073709551616) (hb : b < 18446744073709551616) (w : World) :
    Calls Try.prog 80 #[.int .u64 (a : Int), .int .u64 (b : Int)] w fun e w' => e = .returned (.int .u64 ((a &&& b : Nat) : Int)) ∧ w = w' := by
  go_enter Try.func80, Try.ntmps80
  go_wp2
  go_ret
  exact ⟨ret_int (bits_and_u64 a b ha hb), rfl⟩
theorem enters_and1 (args : Array Value) (W : World) : (callFunc 80 args).run Try.prog W = .ok (.enter 80 args) W := by rfl
theorem tand_any (f g : Nat → Bool) (w : World) : Calls Try.prog 71 #[tabV f, tabV g] w fun e w' => e = .returned (tabV fun x => f x && g x) ∧ Below w.heap.size w w' := by
  unfold tabV tabCells
  go_enter Try.func71, Try.ntmps71
  go_wp2_with fail
  refine (each_any 80 (fun a b => a &&& b) f g _ _ enters_and1 (fun i w1 _ => and1_any _ _ (wd_lt _ _) (wd_lt _ _) w1) (fun i _ => wd_and f g i)).mono ?_
  rintro e w2 ⟨rfl, hb2⟩
  have R2 := (Blk.new2 w _ _ _ _).keep hb2
  obtain ⟨⟨c0, c1, c2, c3⟩, f0, f1, f2, f3⟩ := R2.four
  have HR := Lib.hid R2; clear R2
  unfold tabV tabCells
  go_wp2_with fail
  exact ret_tab rfl _ _ rfl rfl (HR.out.put4 _ _ _ _) ⟨rfl, ((below3 w _ _ _).step hb2).put4 (by omega) _ _ _ _⟩

theorem or1_any (a b : Nat) (ha : a < 18446744073709551616) (hb : b < 18446744073709551616) (w : World) :
    Calls Try.prog 79 #[.int .u64 (a : Int), .int .u64 (b : Int)] w fun e w' => e = .returned (.int .u64 ((a ||| b : Nat) : Int)) ∧ w = w' := by
  go_enter Try.func79, Try.ntmps79
  go_wp2
  go_ret
  exact ⟨ret_int (bits_or_u64 a b ha hb), rfl⟩
theorem enters_or1 (args : Array Value) (W : World) : (callFunc 79 args).run Try.prog W = .ok (.enter 79 args) W := by rfl
theorem tor_any (f g : Nat → Bool) (w : World) : Calls Try.prog 70 #[tabV f, tabV g] w fun e w' => e = .returned (tabV fun x => f x || g x) ∧ Below w.heap.size w w' := by
  unfold tabV tabCells
  go_enter Try.func70, Try.ntmps70
  go_wp2_with fail
  refine (each_any 79 (fun a b => a ||| b) f g _ _ enters_or1 (fun i w1 _ => or1_any _ _ (wd_lt _ _) (wd_lt _ _) w1) (fun i _ => wd_or f g i)).mono ?_
  rintro e w2 ⟨rfl, hb2⟩
  have R2 := (Blk.new2 w _ _ _ _).keep hb2
  obtain ⟨⟨c0, c1, c2, c3⟩, f0, f1, f2, f3⟩ := R2.four
  have HR := Lib.hid R2; clear R2
  unfold tabV tabCells
  go_wp2_with fail
  exact ret_tab rfl _ _ rfl rfl (HR.out.put4 _ _ _ _) ⟨rfl, ((below3 w _ _ _).step hb2).put4 (by omega) _ _ _ _⟩

theorem xor1_any (a b : Nat) (ha : a < 18446744073709551616) (hb : b < 18446744073709551616) (w : World) :
    Calls Try.prog 82 #[.int .u64 (a : Int), .int .u64 (b : Int)] w fun e w' => e = .returned (.int .u64 ((a ^^^ b : Nat) : Int)) ∧ w = w' := by
  go_enter Try.func82, Try.ntmps82
  go_wp2
  go_ret
  exact ⟨ret_int (bits_xor_u64 a b ha hb), rfl⟩
theorem enters_xor1 (args : Array Value) (W : World) : (callFunc 82 args).run Try.prog W = .ok (.enter 82 args) W := by rfl
theorem txor_any (f g : Nat → Bool) (w : World) : Calls Try.prog 73 #[tabV f, tabV g] w fun e w' => e = .returned (tabV fun x => f x ^^ g x) ∧ Below w.heap.size w w' := by
  unfold tabV tabCells
  go_enter Try.func73, Try.ntmps73
  go_wp2_with fail
  refine (each_any 82 (fun a b => a ^^^ b) f g _ _ enters_xor1 (fun i w1 _ => xor1_any _ _ (wd_lt _ _) (wd_lt _ _) w1) (fun i _ => wd_xor f g i)).mono ?_
  rintro e w2 ⟨rfl, hb2⟩
  have R2 := (Blk.new2 w _ _ _ _).keep hb2
  obtain ⟨⟨c0, c1, c2, c3⟩, f0, f1, f2, f3⟩ := R2.four
  have HR := Lib.hid R2; clear R2
  unfold tabV tabCells
  go_wp2_with fail
  exact ret_tab rfl _ _ rfl rfl (HR.out.put4 _ _ _ _) ⟨rfl, ((below3 w _ _ _).step hb2).put4 (by omega) _ _ _ _⟩

theorem not1_any (a b : Nat) (ha : a < 18446744073709551616) (w : World) :
    Calls Try.prog 69 #[.int .u64 (a : Int), .int .u64 (b : Int)] w fun e w' => e = .returned (.int .u64 ((18446744073709551615 ^^^ a : Nat) : Int)) ∧ w = w' := by
  have h : bits .xor .u64 (IntKind.u64.max) (a : Int) = ((18446744073709551615 ^^^ a : Nat) : Int) := by
    rw [show IntKind.u64.max = ((18446744073709551615 : Nat) : Int) from rfl]
    exact bits_xor_u64 _ a (by omega) ha
  have H := Lib.hid h; clear h
  go_enter Try.func69, Try.ntmps69
  go_wp2
  go_ret
  exact ⟨ret_int H.out, rfl⟩
theorem enters_not1 (args : Array Value) (W : World) : (callFunc 69 args).run Try.prog W = .ok (.enter 69 args) W := by rfl
theorem tnot_any (f : Nat → Bool) (w : World) : Calls Try.prog 47 #[tabV f] w fun e w' => e = .returned (tabV fun x => !f x) ∧ Below w.heap.size w w' := by
  unfold tabV tabCells
  go_enter Try.func47, Try.ntmps47
  go_wp2_with fail
  refine (each_any 69 (fun a b => 18446744073709551615 ^^^ a) f f _ _ enters_not1 (fun i w1 _ => not1_any _ _ (wd_lt _ _) w1) (fun i _ => wd_not f i)).mono ?_
  rintro e w2 ⟨rfl, hb2⟩
  have R2 := (Blk.new1 w _ _ _).keep hb2
  obtain ⟨⟨c0, c1, c2, c3⟩, f0, f1, f2, f3⟩ := R2.four
  have HR := Lib.hid R2; clear R2
  unfold tabV tabCells
  go_wp2_with fail
  exact ret_tab rfl _ _ rfl rfl (HR.out.put4 _ _ _ _) ⟨rfl, ((below2 w _ _).step hb2).put4 (by omega) _ _ _ _⟩
end Go.Proofs.Ytmjpecjciibngaa
