/- Func. -/
import Derived.Test.YtmjpecjciibngaaTb2
namespace Go.Proofs.Ytmjpecjciibngaa
open Go.RowKit
set_option linter.unusedVariables false

/-- The function that a formula stands for; no function is false everywhere. -/
def funcF (t : Tree) : Nat → Bool := if isT t then tb t else noF

theorem is_ok {ok : Nat → Prop} (t : Tree) (x : Value) (w : World) (hsm : smallT t = true) (hE : ExprV ok w t x) :
    Calls Try.prog 15 #[x] w fun e w' => e = .returned (.bool (isT t)) ∧ Below w.heap.size w w' :=
  is_any t x w hsm (ExprV.mono (fun g h _ => h) _ _ hE)

set_option maxRecDepth 100000 in
set_option maxHeartbeats 1000000 in
theorem func_any {ok : Nat → Prop} (t : Tree) (x : Value) (w : World) (hsm : smallT t = true) (hE : ExprV ok w t x) :
    Calls Try.prog 14 #[x] w fun e w' => e = .returned (tabV (funcF t)) ∧ Below w.heap.size w w' := by
  obtain ⟨xk, xa, xv, xA, xn, xc, rfl⟩ := hE.four
  have HE := Lib.hid hE; clear hE
  go_enter Try.func14, Try.ntmps14
  go_wp2_with fail
  refine (is_ok t _ _ hsm ((HE.out.alloc _).alloc _)).mono ?_
  rintro e w1 ⟨rfl, hb1⟩
  have HX := Lib.hid (((Blk.new w 36 #[.int .i64 xk, .int .i64 xa, .int .i64 xv, .slice xA xn xc]).alloc (.cells zeroTab 29)).keep hb1)
  have HZ := Lib.hid ((Blk.new1 w (.cells #[.int .i64 xk, .int .i64 xa, .int .i64 xv, .slice xA xn xc] 36) 29 zeroTab).keep hb1)
  have HE1 := Lib.hid (((HE.out.alloc (.cells #[.int .i64 xk, .int .i64 xa, .int .i64 xv, .slice xA xn xc] 36)).alloc (.cells zeroTab 29)).keep hb1)
  have hB1 := (below2 w _ _).step hb1
  have hsz := hb1.size
  simp only [World.size_alloc] at hsz
  clear hb1
  cases hI : isT t
  · have hfin : funcF t = noF := by unfold funcF; rw [hI]; rfl
    have HFin := Lib.hid hfin
    obtain ⟨⟨c0, c1, c2, c3⟩, f0, f1, f2, f3⟩ := HZ.out.four
    clear hfin hI
    go_wp2_with fail
    have := HZ.out.put4 (.int .u64 0) (.int .u64 0) (.int .u64 0) (.int .u64 0)
    refine ret_tab rfl _ noF rfl rfl (by simp only [tabCells, wd_false]; exact HZ.out.put4 _ _ _ _) ⟨by rw [HFin.out], hB1.put4 (by omega) _ _ _ _⟩
  · have hfin : funcF t = tb t := by unfold funcF; rw [hI]; rfl
    have HFin := Lib.hid hfin
    have hP := allP_of_isT hI
    obtain ⟨x0, x1, x2, x3⟩ := HX.out.four.1
    clear hfin hI
    go_wp2_with fail
    refine (table_any ok (htT t) t _ _ (Nat.le_refl _) hP HE1.out).mono ?_
    rintro e w2 ⟨rfl, hb2⟩
    have R4 := HZ.out.keep hb2
    obtain ⟨⟨c0, c1, c2, c3⟩, f0, f1, f2, f3⟩ := R4.four
    have HR := Lib.hid R4; clear R4
    unfold tabV tabCells
    go_wp2_with fail
    exact ret_tab rfl _ _ rfl rfl (HR.out.put4 _ _ _ _) ⟨by rw [HFin.out], (hB1.step hb2).put4 (by omega) _ _ _ _⟩
end Go.Proofs.Ytmjpecjciibngaa
