/- ExprBack: the walk. -/
import Derived.Test.YtmjpecjciibngaaBGoo
import Derived.Test.YtmjpecjciibngaaBPutb
import Derived.Test.YtmjpecjciibngaaKnown
namespace Go.Proofs.Ytmjpecjciibngaa
open Go.RowKit
set_option linter.unusedVariables false

theorem zeroV {ok : Nat → Prop} {w : World} {x : Value} (h : ExprV ok w .zero x) : ∃ A c, x = .agg #[.int .i64 0, .int .i64 0, .int .i64 0, .slice A 0 c] := by
  unfold Tree.zero ExprV at h
  obtain ⟨A, c, e, _⟩ := h
  exact ⟨A, c, e⟩

set_option maxRecDepth 100000 in
set_option maxHeartbeats 4000000 in
theorem back_any (s : Bs) (w : World) : Calls Try.prog 5 #[.string (str s)] w fun e w' => e = .returned (.bool true) ∧ Below w.heap.size w w' := by
  have hsz : (str s).size = s.length := size_str s
  by_cases hl : 2000 < s.length
  · have hl2 : (2000 : Int) < ((str s).size : Int) := by omega
    go_enter Try.func5, Try.ntmps5
    go_wp2_with fail
    refine (known_any _).mono ?_
    rintro e w1 ⟨rfl, hb1⟩
    go_wp2_with fail
    go_ret
    exact ⟨rfl, hb1⟩
  · have hl2 : ¬ (2000 : Int) < ((str s).size : Int) := by omega
    have hlen : s.length ≤ 140737488351232 := by omega
    by_cases h0 : (parseL s).2.2 = 0
    · have hw := back_ways s (by omega) h0
      have hat := ((parse_good s (by omega)).2 h0).1
      go_enter Try.func5, Try.ntmps5
      go_wp2_with fail
      refine (known_any _).mono ?_
      rintro e w1 ⟨rfl, hb1⟩
      go_wp2_with fail
      refine (parse_any s _ hlen).mono ?_
      unfold ParseSays
      rw [h0, hat]
      generalize (parseL s).1 = t at *
      obtain ⟨hF, hW⟩ := hw
      rintro e w2 ⟨x, rfl, hE, hb2⟩
      obtain ⟨xk, xa, xv, xA, xn, xc, rfl⟩ := hE.four
      have HE := Lib.hid (hE.alloc (.cells #[.int .i64 xk, .int .i64 xa, .int .i64 xv, .slice xA xn xc] 36)); have HF := Lib.hid hF; have HW := Lib.hid hW
      have HX := Lib.hid (Blk.new w2 36 #[.int .i64 xk, .int .i64 xa, .int .i64 xv, .slice xA xn xc])
      obtain ⟨⟨x0, x1, x2, x3⟩, _⟩ := HX.out.four
      have HB2 := Lib.hid ((hb1.step hb2).step (below1 w2 (.cells #[.int .i64 xk, .int .i64 xa, .int .i64 xv, .slice xA xn xc] 36)))
      clear hE hF hW hb1 hb2
      go_wp2_with fail
      refine (print_any t _ _ HF.out.small HF.out.len HE.out).mono ?_
      rintro e w3 ⟨rfl, hb3⟩
      rw [HF.out.print]
      have HE3 := Lib.hid (HE.out.keep hb3); have HX3 := Lib.hid (HX.out.keep hb3); have HB3 := Lib.hid (HB2.out.step hb3)
      clear hb3 HE HX HB2 x0 x1 x2 x3
      go_wp2_with fail
      refine (parse_any (printT t) _ (by have := HF.out.len; omega)).mono ?_
      unfold ParseSays
      have hz : (str (printT t)).size = (printT t).length := size_str _
      rcases HW.out with ⟨g1, g2⟩ | ⟨g1, g2⟩ | ⟨g0, gF, gs, gp, gf⟩
      · rw [g2]
        rintro e w4 ⟨y, rfl, hE4, hb4⟩
        obtain ⟨yk, ya, yv, yA, yn, yc, rfl⟩ := hE4.four
        have HB4 := Lib.hid ((HB3.out.step hb4).step (below1 w4 (.cells #[.int .i64 yk, .int .i64 ya, .int .i64 yv, .slice yA yn yc] 36)))
        have hg : decide ((4000 : Int) < ((printT t).length : Int)) = true := by simp; omega
        clear hE4 hb4 g1 g2
        go_wp2_with fail
        go_ret
        exact ⟨rfl, HB4.out⟩
      · rw [g2]
        rintro e w4 ⟨y, rfl, hE4, hb4⟩
        obtain ⟨yk, ya, yv, yA, yn, yc, rfl⟩ := hE4.four
        have HB4 := Lib.hid ((HB3.out.step hb4).step (below1 w4 (.cells #[.int .i64 yk, .int .i64 ya, .int .i64 yv, .slice yA yn yc] 36)))
        have hg : decide ((4000 : Int) < ((printT t).length : Int)) = false := by simp; omega
        clear hE4 hb4 g1 g2
        go_wp2_with fail
        go_ret
        exact ⟨rfl, HB4.out⟩
      · rw [g0]
        generalize (parseL (printT t)).2.1 = pos at *
        generalize (parseL (printT t)).1 = u at *
        rintro e w4 ⟨y, rfl, hE4, hb4⟩
        obtain ⟨yk, ya, yv, yA, yn, yc, rfl⟩ := hE4.four
        obtain ⟨W, hW⟩ : ∃ W : World, W = w4.alloc (.cells #[.int .i64 yk, .int .i64 ya, .int .i64 yv, .slice yA yn yc] 36) := ⟨_, rfl⟩
        have HB4 := Lib.hid (show Below w.heap.size w W from hW ▸ ((HB3.out.step hb4).step (below1 w4 (.cells #[.int .i64 yk, .int .i64 ya, .int .i64 yv, .slice yA yn yc] 36))))
        have HEt := Lib.hid (show ExprV _ W t _ from hW ▸ ((HE3.out.keep hb4).alloc (.cells #[.int .i64 yk, .int .i64 ya, .int .i64 yv, .slice yA yn yc] 36)))
        have HEu := Lib.hid (show ExprV _ W u _ from hW ▸ (hE4.alloc (.cells #[.int .i64 yk, .int .i64 ya, .int .i64 yv, .slice yA yn yc] 36)))
        have hbX := (HX3.out.keep hb4).alloc (.cells #[.int .i64 yk, .int .i64 ya, .int .i64 yv, .slice yA yn yc] 36)
        rw [← hW] at hbX
        have hbY : Blk W w4.heap.size 36 #[.int .i64 yk, .int .i64 ya, .int .i64 yv, .slice yA yn yc] := hW ▸ Blk.new w4 _ _
        obtain ⟨⟨x0, x1, x2, x3⟩, _⟩ := hbX.four
        obtain ⟨⟨y0, y1, y2, y3⟩, _⟩ := hbY.four
        have lX := hbX.lt; have lY := hbY.lt
        have HS := Lib.hid gs; have HP := Lib.hid gp; have HFu := Lib.hid gF; have HQ := Lib.hid gf
        have HWd := Lib.hid (wide_of_small t HF.out.small)
        have hq : ∀ W : World, (Op.equalIn 10000 29 (.agg (tabCells (funcF t))) (.agg (tabCells (funcF t)))).run Try.prog W = .ok true W := fun W => by rw [eqTab, (wds_iff (funcF t) (funcF t)).2 fun _ _ => rfl]
        unfold tabCells at hq
        have HqW := Lib.hid hW
        clear hE4 hb4 hbX hbY gs gp gF gf g0 hW hz
        go_wp2_with fail
        rw [← HqW.out]
        go_region_held3 (fun w' => W.heap.size ≤ w'.heap.size ∧ ∀ p : Addr, p.block < W.heap.size → w'.cell? p = W.cell? p)
          (first
            | exact ⟨Nat.le_refl _, fun p _ => rfl⟩
            | exact ⟨k1, k2⟩
            | exact ⟨k3, k4⟩
            | exact ⟨k5, k6⟩
            | exact ⟨k7, k8⟩)
          (first
            | (go_at_call 17; (with_reducible refine ((same_tree t HWd.out).call _ _ u _ _ _ HEt.out.drew HEu.out.drew).mono ?_); rintro e w5 ⟨rfl, hb5⟩; rw [HS.out];
               have B5 := (show Below W.heap.size W w5 from hb5.of_drew); have k1 := B5.size; have k2 := fun (p : Addr) (hp : p.block < W.heap.size) => B5.cell hp)
            | (go_at_call 16; (with_reducible refine (print_any u _ _ HFu.out.small HFu.out.len (HEu.out.keep B5)).mono ?_); rintro e w6 ⟨rfl, hb6⟩; rw [HFu.out.print, HP.out];
               have B6 := B5.step hb6; have k3 := B6.size; have k4 := fun (p : Addr) (hp : p.block < W.heap.size) => B6.cell hp)
            | (go_at_call 14; (with_reducible refine (func_any t _ _ HF.out.small (HEt.out.keep B7)).mono ?_); rintro e w8 ⟨rfl, hb8⟩; unfold tabV tabCells;
               have B8 := B7.step hb8; have k7 := B8.size; have k8 := fun (p : Addr) (hp : p.block < W.heap.size) => B8.cell hp)
            | (go_at_call 14; (with_reducible refine (func_any u _ _ HFu.out.small (HEu.out.keep B6)).mono ?_); rintro e w7 ⟨rfl, hb7⟩; rw [HQ.out]; unfold tabV tabCells;
               have B7 := B6.step hb7; have k5 := B7.size; have k6 := fun (p : Addr) (hp : p.block < W.heap.size) => B7.cell hp))
        have HB8 := Lib.hid (HB4.out.step B8)
        clear k1 k2 k3 k4 k5 k6 k7 k8 B5 B6 B7 B8 hb5 hb6 hb7 hb8
        go_wp2_with fail
        go_ret
        exact ⟨rfl, HB8.out⟩
    · have hg := (parse_good s (by omega)).1 h0
      obtain ⟨hat, hz⟩ := hg
      go_enter Try.func5, Try.ntmps5
      go_wp2_with fail
      refine (known_any _).mono ?_
      rintro e w1 ⟨rfl, hb1⟩
      go_wp2_with fail
      refine (parse_any s _ hlen).mono ?_
      unfold ParseSays
      rw [hz]
      generalize (parseL s).2.2 = en at *
      generalize (parseL s).2.1 = pos at *
      rintro e w2 ⟨x, rfl, hE, hb2⟩
      obtain ⟨A, c, rfl⟩ := zeroV hE
      have hen : ((en : Int) != 0) = true := by simp; omega
      have hp0 : decide ((0 : Int) ≤ (pos : Int)) = true := by simp
      have hp1 : decide ((pos : Int) ≤ ((str s).size : Int)) = true := by simp; omega
      have HB2 := Lib.hid ((hb1.step hb2).step (below1 w2 (.cells #[.int .i64 0, .int .i64 0, .int .i64 0, .slice A 0 c] 36)))
      clear hE hb1 hb2
      go_wp2_with fail
      go_ret
      exact ⟨rfl, HB2.out⟩
end Go.Proofs.Ytmjpecjciibngaa
