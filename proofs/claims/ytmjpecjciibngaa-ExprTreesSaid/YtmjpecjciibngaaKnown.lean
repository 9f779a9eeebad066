/- known. -/
import Derived.Test.YtmjpecjciibngaaPut1
import Derived.Test.YtmjpecjciibngaaParse
import Derived.Test.YtmjpecjciibngaaBRef
import Derived.Test.YtmjpecjciibngaaEqTab
namespace Go.Proofs.Ytmjpecjciibngaa
open Go.RowKit
set_option linter.unusedVariables false

abbrev sA : Bs := [118, 48, 32, 38, 32, 33, 118, 49, 32, 45, 62, 32, 118, 50]
abbrev sB : Bs := [118, 48, 32, 38]
abbrev ksA : List Tree := [.node 4 3 0 [.node 1 0 0 [], .node 3 5 0 [.node 1 6 1 []]], .node 1 12 2 []]
abbrev tA : Tree := .node 7 9 0 ksA
theorem parse_A : parseL sA = (tA, 0, 0) := by kernel_rfl
theorem parse_B : parseL sB = (.zero, 4, 230) := by kernel_rfl
theorem isA : isT tA = true := by kernel_rfl
theorem func_A : ∀ x, x < 256 → funcF tA x = (!(Nat.testBit x 0 && !Nat.testBit x 1) || Nat.testBit x 2) := by
  intro x _
  unfold funcF
  rw [isA]
  simp [tb, tbs, nodeF, binF, nth]

set_option maxRecDepth 100000 in
set_option maxHeartbeats 4000000 in
theorem known_any (w : World) : Calls Try.prog 8 #[] w fun e w' => e = .returned (.bool true) ∧ Below w.heap.size w w' := by
  go_enter Try.func8, Try.ntmps8
  go_wp2_with fail
  refine (parse_any sA _ (by simp)).mono ?_
  unfold ParseSays
  rw [parse_A]
  rintro e w1 ⟨x, rfl, hE, hb1⟩
  obtain ⟨xk, xa, xv, xA, xn, xc, rfl⟩ := hE.four
  obtain ⟨rfl, rfl, rfl, rfl⟩ : xk = 7 ∧ xa = 9 ∧ xv = 0 ∧ xn = 2 := by
    have h := hE
    unfold tA ksA ExprV at h
    obtain ⟨A', c', e, _⟩ := h
    injection e with e
    simp only [Array.mk.injEq, List.cons.injEq, Value.int.injEq, Value.slice.injEq, and_true, true_and] at e
    exact ⟨e.1, e.2.1, e.2.2.1, e.2.2.2.2.1⟩
  have HE := Lib.hid hE; clear hE
  go_wp2_with fail
  refine (parse_any sB _ (by simp)).mono ?_
  unfold ParseSays
  rw [parse_B]
  rintro e w2 ⟨y, rfl, hE2, hb2⟩
  obtain ⟨yk, ya, yv, yA, yn, yc, rfl⟩ := hE2.four
  have hX2 := (Blk.new w1 36 #[.int .i64 7, .int .i64 9, .int .i64 0, .slice xA 2 xc]).keep hb2
  have HE2 := Lib.hid ((HE.out.alloc (.cells #[.int .i64 7, .int .i64 9, .int .i64 0, .slice xA 2 xc] 36)).keep hb2)
  clear hE2
  have hX3 := hX2.alloc (.cells #[.int .i64 yk, .int .i64 ya, .int .i64 yv, .slice yA yn yc] 36)
  obtain ⟨⟨x0, x1, x2, x3⟩, _⟩ := hX3.four
  have HX3 := Lib.hid hX3
  clear hX2 hX3
  go_wp2_with fail
  refine (print_var 0 3 0 _ (by omega)).mono ?_
  rintro e w3 ⟨rfl, hb3⟩
  rw [show str [118, dg 3] = ⟨#[118, 51]⟩ from rfl]
  obtain ⟨⟨y0, y1, y2, y3⟩, _⟩ := (HX3.out.keep hb3).four
  have HE3 := Lib.hid ((HE2.out.alloc (.cells #[.int .i64 yk, .int .i64 ya, .int .i64 yv, .slice yA yn yc] 36)).keep hb3)
  have HB3 := Lib.hid (((((hb1.alloc hb1.size (.cells #[.int .i64 7, .int .i64 9, .int .i64 0, .slice xA 2 xc] 36)).step hb2).alloc (by have := hb1.size; have := hb2.size; simp at this; omega) (.cells #[.int .i64 yk, .int .i64 ya, .int .i64 yv, .slice yA yn yc] 36))).step hb3)
  clear hb1 hb2 hb3 x0 x1 x2 x3
  go_wp2_with fail
  refine (func_any tA _ _ (by rfl) HE3.out).mono ?_
  rintro e w4 ⟨rfl, hb4⟩
  have HB4 := Lib.hid (HB3.out.step hb4); clear hb4
  go_wp2_with fail
  refine (rvar_any 0 (by omega) _).mono ?_
  rintro e w5 ⟨rfl, hb5⟩
  have HB5 := Lib.hid (HB4.out.step hb5); clear hb5
  go_wp2_with fail
  refine (rvar_any 1 (by omega) _).mono ?_
  rintro e w6 ⟨rfl, hb6⟩
  have HB6 := Lib.hid (HB5.out.step hb6); clear hb6
  go_wp2_with fail
  refine (rnot_any (fun x : Nat => x.testBit 1) _).mono ?_
  rintro e w7 ⟨rfl, hb7⟩
  have HB7 := Lib.hid (HB6.out.step hb7); clear hb7
  go_wp2_with fail
  refine (rand_any (fun x : Nat => x.testBit 0) (fun x : Nat => !x.testBit 1) _).mono ?_
  rintro e w8 ⟨rfl, hb8⟩
  have HB8 := Lib.hid (HB7.out.step hb8); clear hb8
  go_wp2_with fail
  refine (rnot_any (fun x : Nat => x.testBit 0 && !x.testBit 1) _).mono ?_
  rintro e w9 ⟨rfl, hb9⟩
  have HB9 := Lib.hid (HB8.out.step hb9); clear hb9
  go_wp2_with fail
  refine (rvar_any 2 (by omega) _).mono ?_
  rintro e wa ⟨rfl, hba⟩
  have HBa := Lib.hid (HB9.out.step hba); clear hba
  go_wp2_with fail
  refine (ror_any (fun x : Nat => !(x.testBit 0 && !x.testBit 1)) (fun x : Nat => x.testBit 2) _).mono ?_
  rintro e wb ⟨rfl, hbb⟩
  have HBb := Lib.hid (HBa.out.step hbb); clear hbb
  rw [tabV_congr func_A]
  generalize (fun x : Nat => !(x.testBit 0 && !x.testBit 1) || x.testBit 2) = F
  have hq : ∀ W : World, (Op.equalIn 10000 29 (.agg (tabCells F)) (.agg (tabCells F))).run Try.prog W = .ok true W := fun W => by rw [eqTab, (wds_iff F F).2 fun _ _ => rfl]
  unfold tabCells at hq
  unfold tabV tabCells
  go_wp2_with fail
  go_ret
  exact ⟨rfl, HBb.out⟩
end Go.Proofs.Ytmjpecjciibngaa
