/- ExprTrees: the walk. -/
import Derived.Test.YtmjpecjciibngaaBack2
import Derived.Test.YtmjpecjciibngaaBRfb
import Derived.Test.YtmjpecjciibngaaIs3
namespace Go.Proofs.Ytmjpecjciibngaa
open Go.RowKit
set_option linter.unusedVariables false

theorem funcF_isT {t : Tree} (h : isT t = true) : funcF t = tb t := by unfold funcF; rw [if_pos h]
theorem funcF_not {t : Tree} (h : isT t = false) : funcF t = noF := by unfold funcF; rw [h]; rfl
theorem printS_isT {t : Tree} (h : isT t = true) : printS t = printT t := by unfold printS; rw [if_pos h]
theorem printS_not {t : Tree} (h : isT t = false) : printS t = [] := by unfold printS; rw [h]; rfl

set_option maxRecDepth 100000 in
set_option maxHeartbeats 4000000 in
theorem trees_any {oka okb : Nat → Prop} (a b : Tree) (x y : Value) (w : World) (ha : ExprV oka w a x) (hb : ExprV okb w b y) :
    Calls Try.prog 7 #[x, y] w fun e w' => e = .returned (.bool true) ∧ Below w.heap.size w w' := by
  obtain ⟨xk, xa, xv, xA, xn, xc, rfl⟩ := ha.four
  obtain ⟨yk, ya, yv, yA, yn, yc, rfl⟩ := hb.four
  obtain ⟨W, hW⟩ : ∃ W : World, W = (w.alloc (.cells #[.int .i64 xk, .int .i64 xa, .int .i64 xv, .slice xA xn xc] 36)).alloc (.cells #[.int .i64 yk, .int .i64 ya, .int .i64 yv, .slice yA yn yc] 36) := ⟨_, rfl⟩
  have HB := Lib.hid (show Below w.heap.size w W from hW ▸ below2 _ _ _)
  have HA := Lib.hid (show ExprV oka W a _ from hW ▸ ((ha.alloc (.cells #[.int .i64 xk, .int .i64 xa, .int .i64 xv, .slice xA xn xc] 36)).alloc (.cells #[.int .i64 yk, .int .i64 ya, .int .i64 yv, .slice yA yn yc] 36)))
  have HE := Lib.hid (show ExprV okb W b _ from hW ▸ ((hb.alloc (.cells #[.int .i64 xk, .int .i64 xa, .int .i64 xv, .slice xA xn xc] 36)).alloc (.cells #[.int .i64 yk, .int .i64 ya, .int .i64 yv, .slice yA yn yc] 36)))
  have HX := Lib.hid (show Blk W w.heap.size 36 #[.int .i64 xk, .int .i64 xa, .int .i64 xv, .slice xA xn xc] from hW ▸ (Blk.new w _ _).alloc (.cells #[.int .i64 yk, .int .i64 ya, .int .i64 yv, .slice yA yn yc] 36))
  have HY := Lib.hid (show Blk W (w.heap.size + 1) 36 #[.int .i64 yk, .int .i64 ya, .int .i64 yv, .slice yA yn yc] from by have h := Blk.new (w.alloc (.cells #[.int .i64 xk, .int .i64 xa, .int .i64 xv, .slice xA xn xc] 36)) 36 #[.int .i64 yk, .int .i64 ya, .int .i64 yv, .slice yA yn yc]; rw [← hW] at h; simpa using h)
  clear ha hb
  go_enter Try.func7, Try.ntmps7
  go_wp2_with fail
  rw [← hW]
  refine (known_any _).mono ?_
  rintro e w1 ⟨rfl, hb1⟩
  have HA1 := Lib.hid (HA.out.keep hb1); have HE1 := Lib.hid (HE.out.keep hb1); have HX1 := Lib.hid (HX.out.keep hb1); have HY1 := Lib.hid (HY.out.keep hb1); have HB1 := Lib.hid (HB.out.step hb1)
  obtain ⟨⟨x0, x1, x2, x3⟩, _⟩ := HX1.out.four
  obtain ⟨⟨y0, y1, y2, y3⟩, _⟩ := HY1.out.four
  clear hb1 HX HY HA HE HB hW
  go_wp2_with fail
  refine (count_any 300 (by omega) _ a _ _ HA1.out).mono ?_
  rintro e w2 ⟨rfl, hb2⟩
  have HA2 := Lib.hid (HA1.out.keep hb2); have HE2 := Lib.hid (HE1.out.keep hb2); have HX2 := Lib.hid (HX1.out.keep hb2); have HY2 := Lib.hid (HY1.out.keep hb2); have HB2 := Lib.hid (HB1.out.step hb2)
  clear x0 x1 x2 x3 y0 y1 y2 y3
  obtain ⟨⟨x0, x1, x2, x3⟩, _⟩ := HX2.out.four
  obtain ⟨⟨y0, y1, y2, y3⟩, _⟩ := HY2.out.four
  clear hb2 HX1 HY1 HA1 HE1 HB1
  by_cases hsa : sizeT a ≤ 300
  · have hca : cntT 300 a = sizeT a := by unfold cntT; omega
    rw [hca]
    have hga : decide ((300 : Int) < (sizeT a : Int)) = false := by simp; omega
    go_wp2_with fail
    refine (count_any 300 (by omega) _ b _ _ HE2.out).mono ?_
    rintro e w3 ⟨rfl, hb3⟩
    by_cases hsb : sizeT b ≤ 300
    · have hcb : cntT 300 b = sizeT b := by unfold cntT; omega
      rw [hcb]
      have hgb : decide ((300 : Int) < (sizeT b : Int)) = false := by simp; omega
      have HA3 := Lib.hid (HA2.out.keep hb3); have HE3 := Lib.hid (HE2.out.keep hb3); have HX3 := Lib.hid (HX2.out.keep hb3); have HY3 := Lib.hid (HY2.out.keep hb3); have HB3 := Lib.hid (HB2.out.step hb3)
      clear x0 x1 x2 x3 y0 y1 y2 y3
      obtain ⟨⟨x0, x1, x2, x3⟩, _⟩ := HX3.out.four
      obtain ⟨⟨y0, y1, y2, y3⟩, _⟩ := HY3.out.four
      have lX := HX3.out.lt; have lY := HY3.out.lt
      have HBr := Lib.hid (broad_of a (by omega)); have HWa := Lib.hid (wide_of_broad a (broad_of a (by omega)))
      have HIR := Lib.hid (isR_eq a (by omega)); have HSz := Lib.hid hsa
      have HAA := Lib.hid (same_strip a a rfl)
      clear hb3 HX2 HY2 HA2 HE2 HB2 hca hcb hsa hsb
      cases hT : isT a
      all_goals
        have HT := Lib.hid hT
        have HRT := Lib.hid (show isR a = _ from HIR.out.trans hT)
        clear hT
        go_wp2_with fail
        go_region_held3 (fun w' => w3.heap.size ≤ w'.heap.size ∧ ∀ p : Addr, p.block < w3.heap.size → w'.cell? p = w3.cell? p)
          (first
            | exact ⟨Nat.le_refl _, fun p _ => rfl⟩
            | exact ⟨k1, k2⟩
            | exact ⟨k3, k4⟩
            | exact ⟨k5, k6⟩
            | exact ⟨k7, k8⟩
            | exact ⟨k9, k10⟩)
          (first
            | (go_at_call 15; (with_reducible refine (is_broad_ok a _ _ HBr.out HA3.out.drew).mono ?_); rintro e w5 ⟨rfl, hb5⟩; rw [HT.out];
               have B5 := (show Below w3.heap.size w3 w5 from hb5.of_drew); have k1 := B5.size; have k2 := fun (p : Addr) (hp : p.block < w3.heap.size) => B5.cell hp)
            | (go_at_call 19; (with_reducible refine (ref_is _ a _ _ (HA3.out.keep B5)).mono ?_); rintro e w6 ⟨rfl, hb6⟩; rw [HRT.out];
               have B6 := B5.step hb6; have k3 := B6.size; have k4 := fun (p : Addr) (hp : p.block < w3.heap.size) => B6.cell hp)
            | (go_at_call 17; (with_reducible refine ((same_tree a HWa.out).call _ _ a _ _ _ (HA3.out.keep B8) (HA3.out.keep B8)).mono ?_); rintro e w9 ⟨rfl, hb9⟩; rw [HAA.out];
               have B9 := B8.step hb9; have k9 := B9.size; have k10 := fun (p : Addr) (hp : p.block < w3.heap.size) => B9.cell hp)
            | (go_at_call 17; (with_reducible refine ((same_tree a HWa.out).call _ _ b _ _ _ (HA3.out.keep B6) (HE3.out.keep B6)).mono ?_); rintro e w7 ⟨rfl, hb7⟩;
               have B7 := B6.step hb7; have k5 := B7.size; have k6 := fun (p : Addr) (hp : p.block < w3.heap.size) => B7.cell hp)
            | (go_at_call 20; (with_reducible refine ((refsame_tree a HWa.out).call _ _ b _ _ _ (HA3.out.keep B7) (HE3.out.keep B7)).mono ?_); rintro e w8 ⟨rfl, hb8⟩;
               have B8 := B7.step hb8; have k7 := B8.size; have k8 := fun (p : Addr) (hp : p.block < w3.heap.size) => B8.cell hp))
        have HB9 := Lib.hid (HB3.out.step B9)
        have HA9 := Lib.hid (HA3.out.keep B9); have HX9 := Lib.hid (HX3.out.keep B9)
        clear k1 k2 k3 k4 k5 k6 k7 k8 k9 k10 B5 B6 B7 B8 B9 hb5 hb6 hb7 hb8 hb9 x0 x1 x2 x3 y0 y1 y2 y3 lX lY
        obtain ⟨⟨x0, x1, x2, x3⟩, _⟩ := HX9.out.four
        have lX := HX9.out.lt
        go_wp2_with fail
        refine (ref_is _ a _ _ HA9.out).mono ?_
        rintro e w10 ⟨rfl, hb10⟩
        rw [HRT.out]
        have HBA := Lib.hid (HB9.out.step hb10); have HAA' := Lib.hid (HA9.out.keep hb10); have HXA := Lib.hid (HX9.out.keep hb10)
        clear hb10 HB9 HA9 HX9 x0 x1 x2 x3 lX
        obtain ⟨⟨x0, x1, x2, x3⟩, _⟩ := HXA.out.four
        have lX := HXA.out.lt
      · have HP := Lib.hid (printS_not HT.out); have HF := Lib.hid (funcF_not HT.out)
        go_wp2_with fail
        refine (print_broad a _ _ HBr.out (by intro h; rw [HT.out] at h; cases h) HAA'.out).mono ?_
        rintro e w11 ⟨rfl, hb11⟩
        rw [HP.out]
        have hs0 : (str []).toList = [] := by kernel_rfl
        have HBB := Lib.hid (HBA.out.step hb11); have HAB := Lib.hid (HAA'.out.keep hb11); have HXB := Lib.hid (HXA.out.keep hb11)
        clear hb11 x0 x1 x2 x3 lX
        obtain ⟨⟨x0, x1, x2, x3⟩, _⟩ := HXB.out.four
        go_wp2_with fail
        refine (func_broad a _ _ HBr.out HAB.out).mono ?_
        rintro e w12 ⟨rfl, hb12⟩
        rw [HF.out]
        have HBC := Lib.hid (HBB.out.step hb12)
        have hq : ∀ W : World, (Op.equalIn 10000 29 (.agg (tabCells noF)) (.agg (tabCells noF))).run Try.prog W = .ok true W := fun W => by rw [eqTab, (wds_iff noF noF).2 fun _ _ => rfl]
        simp only [tabCells, wd_false] at hq
        have hq1 : ∀ W : World, (Op.equalIn 10000 29 (.agg #[.int .u64 0, .int .u64 0, .int .u64 0, .int .u64 0]) (.agg #[.int .u64 0, .int .u64 0, .int .u64 0, .int .u64 0])).run Try.prog W = .ok true W := fun W => hq W
        clear hq
        simp only [tabV, tabCells, wd_false]
        clear hb12
        go_wp2_with fail
        go_ret
        exact ⟨rfl, HBC.out⟩
      · have hPl : allP a = true := allP_of_isT HT.out
        have hle : (printT a).length ≤ 1000000 := by have := print_len a hPl; have := HSz.out; omega
        have HP := Lib.hid (printS_isT HT.out); have HF := Lib.hid (funcF_isT HT.out); have HPl := Lib.hid hPl; have HLe := Lib.hid hle
        have hq : ∀ W : World, (Op.equalIn 10000 29 (.agg (tabCells (tb a))) (.agg (tabCells (tb a)))).run Try.prog W = .ok true W := fun W => by rw [eqTab, (wds_iff (tb a) (tb a)).2 fun _ _ => rfl]
        unfold tabCells at hq
        clear hPl hle
        go_wp2_with fail
        go_region_held3 (fun w' => w10.heap.size ≤ w'.heap.size ∧ ∀ p : Addr, p.block < w10.heap.size → w'.cell? p = w10.cell? p)
          (first
            | exact ⟨Nat.le_refl _, fun p _ => rfl⟩
            | exact ⟨k1, k2⟩
            | exact ⟨k3, k4⟩
            | exact ⟨k5, k6⟩
            | exact ⟨k7, k8⟩
            | exact ⟨k9, k10⟩
            | exact ⟨k11, k12⟩)
          (first
            | (go_at_call 16; (with_reducible refine (print_broad a _ _ HBr.out (fun _ => HLe.out) HAA'.out.drew).mono ?_); rintro e w11 ⟨rfl, hb11⟩; rw [HP.out];
               have B1 := (show Below w10.heap.size w10 w11 from hb11.of_drew); have k1 := B1.size; have k2 := fun (p : Addr) (hp : p.block < w10.heap.size) => B1.cell hp)
            | (go_at_call 21; (with_reducible refine ((rp_tree a HPl.out).call _ _ _ HLe.out (HAA'.out.keep B1)).mono ?_); rintro e w12 ⟨rfl, hb12⟩;
               have B2 := B1.step hb12; have k3 := B2.size; have k4 := fun (p : Addr) (hp : p.block < w10.heap.size) => B2.cell hp)
            | (go_at_call 14; (with_reducible refine (func_broad a _ _ HBr.out (HAA'.out.keep B2)).mono ?_); rintro e w13 ⟨rfl, hb13⟩; rw [HF.out]; unfold tabV tabCells;
               have B3 := B2.step hb13; have k5 := B3.size; have k6 := fun (p : Addr) (hp : p.block < w10.heap.size) => B3.cell hp)
            | (go_at_call 22; (with_reducible refine (refunc_any _ (htT a) a _ _ (Nat.le_refl _) HPl.out (HAA'.out.keep B3)).mono ?_); rintro e w14 ⟨rfl, hb14⟩; unfold tabV tabCells;
               have B4 := B3.step hb14; have k7 := B4.size; have k8 := fun (p : Addr) (hp : p.block < w10.heap.size) => B4.cell hp)
            | (go_at_call 23; (with_reducible refine (evars_any a _ _ HPl.out (by have := HSz.out; omega) (ExprV.mono (fun g h _ => h) _ _ (HAA'.out.keep B4))).mono ?_); rintro e w15 ⟨rfl, hb15⟩;
               have B5 := B4.step hb15; have k9 := B5.size; have k10 := fun (p : Addr) (hp : p.block < w10.heap.size) => B5.cell hp)
            | (go_at_call 24; (with_reducible refine ((refvars_tree a HPl.out).call _ _ _ (HAA'.out.keep B5)).mono ?_); rintro e w16 ⟨rfl, hb16⟩;
               have B6 := B5.step hb16; have k11 := B6.size; have k12 := fun (p : Addr) (hp : p.block < w10.heap.size) => B6.cell hp))
        have HBZ := Lib.hid (HBA.out.step B6)
        clear k1 k2 k3 k4 k5 k6 k7 k8 k9 k10 k11 k12 B1 B2 B3 B4 B5 B6 hb11 hb12 hb13 hb14 hb15 hb16
        go_wp2_with fail
        go_ret
        exact ⟨rfl, HBZ.out⟩
    · have hcb : cntT 300 b = 301 := by unfold cntT; omega
      rw [hcb]
      have HB3 := Lib.hid (HB2.out.step hb3)
      clear hb3
      go_wp2_with fail
      go_ret
      exact ⟨rfl, HB3.out⟩
  · have hca : cntT 300 a = 301 := by unfold cntT; omega
    rw [hca]
    go_wp2_with fail
    go_ret
    exact ⟨rfl, HB2.out⟩
end Go.Proofs.Ytmjpecjciibngaa
