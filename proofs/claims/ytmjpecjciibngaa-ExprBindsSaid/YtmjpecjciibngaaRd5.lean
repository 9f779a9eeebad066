/- The reader in memory: and, xor, or, iff, imp. -/
import Derived.Test.YtmjpecjciibngaaRd4
namespace Go.Proofs.Ytmjpecjciibngaa
open Go.RowKit
set_option linter.unusedVariables false
instance (t : Bs) : Decidable (good t) := inferInstanceAs (Decidable (_ ∧ _))

set_option maxRecDepth 100000 in
theorem and_any (R : Rd) (s : Bs) (hs : s.length ≤ 4000) (d : Nat) (hR : Does 87 R s d) (hC : Calm R d) : Does 83 (chain [38] 4 R) s d := by
  intro w b p hP hpd
  have hlt := hP.blk.lt
  have HP := Lib.hid hP; have HR := Lib.hid hR; have HC := Lib.hid hC; have HD := Lib.hid hpd
  clear hP hR hC hpd
  go_enter Try.func83, Try.ntmps83
  go_wp2_with fail
  refine (chain_un R s [38] 4 hs (by decide) d HR.out HC.out _ b p (HP.out.keep (below1 _ _)) HD.out).mono ?_
  rintro e w1 ⟨x, rfl, hE, hgr, hP1⟩
  obtain ⟨xk, xa, xv, xA, xn, xc, rfl⟩ := hE.four
  have hZ := (Blk.new w 36 zeroExpr).grown hgr (by simp; omega)
  have hE1 : ExprV (fun g => w.heap.size < g) w1 (chain [38] 4 R p).1 (.agg #[.int .i64 xk, .int .i64 xa, .int .i64 xv, .slice xA xn xc]) := ExprV.mono (by intro g h1 h2; simp at h2; omega) _ _ hE
  have hG1 : w.grownBy w1 (some b) := grown_trans (grown_alloc (World.grownBy.refl _ _) _) hgr
  obtain ⟨⟨z0, z1, z2, z3⟩, zf0, zf1, zf2, zf3⟩ := hZ.four
  have HE1 := Lib.hid hE1; have HP1 := Lib.hid hP1; have HZ := Lib.hid hZ
  clear hE hE1 hP1 hZ hgr
  go_wp2_with fail
  exact ret_expr rfl w.heap.size _ _ _ _ rfl rfl (HZ.out.put4 _ _ _ _) ⟨_, rfl, ExprV.mono (by intro g _ h; omega) _ _ (HE1.out.put4 (by omega) _ _ _ _), grown_fresh4 hG1 (by omega) _ _ _ _, HP1.out.put4 (by omega) _ _ _ _⟩

set_option maxRecDepth 100000 in
theorem xor_any (R : Rd) (s : Bs) (hs : s.length ≤ 4000) (d : Nat) (hR : Does 83 R s d) (hC : Calm R d) : Does 77 (chain [94] 6 R) s d := by
  intro w b p hP hpd
  have hlt := hP.blk.lt
  have HP := Lib.hid hP; have HR := Lib.hid hR; have HC := Lib.hid hC; have HD := Lib.hid hpd
  clear hP hR hC hpd
  go_enter Try.func77, Try.ntmps77
  go_wp2_with fail
  refine (chain_and R s [94] 6 hs (by decide) d HR.out HC.out _ b p (HP.out.keep (below1 _ _)) HD.out).mono ?_
  rintro e w1 ⟨x, rfl, hE, hgr, hP1⟩
  obtain ⟨xk, xa, xv, xA, xn, xc, rfl⟩ := hE.four
  have hZ := (Blk.new w 36 zeroExpr).grown hgr (by simp; omega)
  have hE1 : ExprV (fun g => w.heap.size < g) w1 (chain [94] 6 R p).1 (.agg #[.int .i64 xk, .int .i64 xa, .int .i64 xv, .slice xA xn xc]) := ExprV.mono (by intro g h1 h2; simp at h2; omega) _ _ hE
  have hG1 : w.grownBy w1 (some b) := grown_trans (grown_alloc (World.grownBy.refl _ _) _) hgr
  obtain ⟨⟨z0, z1, z2, z3⟩, zf0, zf1, zf2, zf3⟩ := hZ.four
  have HE1 := Lib.hid hE1; have HP1 := Lib.hid hP1; have HZ := Lib.hid hZ
  clear hE hE1 hP1 hZ hgr
  go_wp2_with fail
  exact ret_expr rfl w.heap.size _ _ _ _ rfl rfl (HZ.out.put4 _ _ _ _) ⟨_, rfl, ExprV.mono (by intro g _ h; omega) _ _ (HE1.out.put4 (by omega) _ _ _ _), grown_fresh4 hG1 (by omega) _ _ _ _, HP1.out.put4 (by omega) _ _ _ _⟩

set_option maxRecDepth 100000 in
theorem or_any (R : Rd) (s : Bs) (hs : s.length ≤ 4000) (d : Nat) (hR : Does 77 R s d) (hC : Calm R d) : Does 62 (chain [124] 5 R) s d := by
  intro w b p hP hpd
  have hlt := hP.blk.lt
  have HP := Lib.hid hP; have HR := Lib.hid hR; have HC := Lib.hid hC; have HD := Lib.hid hpd
  clear hP hR hC hpd
  go_enter Try.func62, Try.ntmps62
  go_wp2_with fail
  refine (chain_xor R s [124] 5 hs (by decide) d HR.out HC.out _ b p (HP.out.keep (below1 _ _)) HD.out).mono ?_
  rintro e w1 ⟨x, rfl, hE, hgr, hP1⟩
  obtain ⟨xk, xa, xv, xA, xn, xc, rfl⟩ := hE.four
  have hZ := (Blk.new w 36 zeroExpr).grown hgr (by simp; omega)
  have hE1 : ExprV (fun g => w.heap.size < g) w1 (chain [124] 5 R p).1 (.agg #[.int .i64 xk, .int .i64 xa, .int .i64 xv, .slice xA xn xc]) := ExprV.mono (by intro g h1 h2; simp at h2; omega) _ _ hE
  have hG1 : w.grownBy w1 (some b) := grown_trans (grown_alloc (World.grownBy.refl _ _) _) hgr
  obtain ⟨⟨z0, z1, z2, z3⟩, zf0, zf1, zf2, zf3⟩ := hZ.four
  have HE1 := Lib.hid hE1; have HP1 := Lib.hid hP1; have HZ := Lib.hid hZ
  clear hE hE1 hP1 hZ hgr
  go_wp2_with fail
  exact ret_expr rfl w.heap.size _ _ _ _ rfl rfl (HZ.out.put4 _ _ _ _) ⟨_, rfl, ExprV.mono (by intro g _ h; omega) _ _ (HE1.out.put4 (by omega) _ _ _ _), grown_fresh4 hG1 (by omega) _ _ _ _, HP1.out.put4 (by omega) _ _ _ _⟩

set_option maxRecDepth 100000 in
theorem iff_any (R : Rd) (s : Bs) (hs : s.length ≤ 4000) (d : Nat) (hR : Does 44 R s d) (hC : Calm R d) : Does 31 (chain [60, 45, 62] 8 R) s d := by
  intro w b p hP hpd
  have hlt := hP.blk.lt
  have HP := Lib.hid hP; have HR := Lib.hid hR; have HC := Lib.hid hC; have HD := Lib.hid hpd
  clear hP hR hC hpd
  go_enter Try.func31, Try.ntmps31
  go_wp2_with fail
  refine (chain_imp R s [60, 45, 62] 8 hs (by decide) d HR.out HC.out _ b p (HP.out.keep (below1 _ _)) HD.out).mono ?_
  rintro e w1 ⟨x, rfl, hE, hgr, hP1⟩
  obtain ⟨xk, xa, xv, xA, xn, xc, rfl⟩ := hE.four
  have hZ := (Blk.new w 36 zeroExpr).grown hgr (by simp; omega)
  have hE1 : ExprV (fun g => w.heap.size < g) w1 (chain [60, 45, 62] 8 R p).1 (.agg #[.int .i64 xk, .int .i64 xa, .int .i64 xv, .slice xA xn xc]) := ExprV.mono (by intro g h1 h2; simp at h2; omega) _ _ hE
  have hG1 : w.grownBy w1 (some b) := grown_trans (grown_alloc (World.grownBy.refl _ _) _) hgr
  obtain ⟨⟨z0, z1, z2, z3⟩, zf0, zf1, zf2, zf3⟩ := hZ.four
  have HE1 := Lib.hid hE1; have HP1 := Lib.hid hP1; have HZ := Lib.hid hZ
  clear hE hE1 hP1 hZ hgr
  go_wp2_with fail
  exact ret_expr rfl w.heap.size _ _ _ _ rfl rfl (HZ.out.put4 _ _ _ _) ⟨_, rfl, ExprV.mono (by intro g _ h; omega) _ _ (HE1.out.put4 (by omega) _ _ _ _), grown_fresh4 hG1 (by omega) _ _ _ _, HP1.out.put4 (by omega) _ _ _ _⟩

theorem enters_imp (args : Array Value) (W : World) : (callFunc 44 args).run Try.prog W = .ok (.enter 44 args) W := by rfl
theorem enters_un (args : Array Value) (W : World) : (callFunc 87 args).run Try.prog W = .ok (.enter 87 args) W := by rfl
theorem enters_iff (args : Array Value) (W : World) : (callFunc 31 args).run Try.prog W = .ok (.enter 31 args) W := by rfl

set_option maxRecDepth 100000 in
set_option maxHeartbeats 4000000 in
theorem imp_any (un imp : Rd) (s : Bs) (hs : s.length ≤ 4000) (d : Nat) (hd : d ≤ 30) (hun : Does 87 un s d) (hcu : Calm un d)
    (himp : d < 30 → Does 44 imp s (d + 1)) (hci : Calm imp (d + 1)) : Does 44 (impP un imp) s d := by
  have hor := or_any _ s hs d (xor_any _ s hs d (and_any _ s hs d hun hcu) (chain_calm hcu _ _)) (chain_calm (chain_calm hcu _ _) _ _)
  have hoc : Calm (orP un) d := chain_calm (chain_calm (chain_calm hcu _ _) _ _) _ _
  change Does _ (orP un) s d at hor
  intro w b p hP hpd
  have hlt := hP.blk.lt
  have HP := Lib.hid hP; have HO := Lib.hid hor; have HC := Lib.hid hoc; have HD := Lib.hid hpd; have HI := Lib.hid himp; have HCI := Lib.hid hci
  clear hP hor hoc hpd hun hcu himp hci
  go_enter Try.func44, Try.ntmps44
  go_wp2_with fail
  refine (HO.out _ b p (HP.out.keep (below1 _ _)) HD.out).mono ?_
  rintro e w1 ⟨x, rfl, hE, hgr, hP1⟩
  obtain ⟨xk, xa, xv, xA, xn, xc, rfl⟩ := hE.four
  have hsz1 := hgr.size
  simp only [World.size_alloc] at hsz1
  have hZ := (Blk.new w 36 zeroExpr).grown hgr (by simp; omega)
  have hE1 : ExprV (fun g => w.heap.size < g ∧ g < w1.heap.size) w1 (orP un p).1 (.agg #[.int .i64 xk, .int .i64 xa, .int .i64 xv, .slice xA xn xc]) := ExprV.mono (by intro g h1 h2; simp at h2; exact ⟨by omega, h1⟩) _ _ hE
  have hG1 : w.grownBy w1 (some b) := grown_trans (grown_alloc (World.grownBy.refl _ _) _) hgr
  have hd1 := (HC.out p HD.out).1
  have hlb : b < w1.heap.size := by omega
  obtain ⟨⟨c0, c1, c2, c3, c4, c5⟩, f0, f1, f2, f3, f4, f5⟩ := six hP1.blk
  have HE1 := Lib.hid hE1; have HP1 := Lib.hid hP1; have HZ := Lib.hid hZ; have HD1 := Lib.hid hd1
  clear hE hE1 hP1 hZ hd1 hgr c0 c1 c3 c4 c5 f0 f1 f2 f3 f4 f5
  go_wp2_with fail
  refine (may_any b s (orP un p).2 [45, 62] _ hs (HP1.out.keep (below1 _ _)) (by decide)).mono ?_
  rintro e w2 ⟨rfl, hgr2, hP2⟩
  have hsz2 := hgr2.size
  simp only [World.size_alloc] at hsz2
  have hZ2 := (HZ.out.alloc (.cells #[.int .i64 xk, .int .i64 xa, .int .i64 xv, .slice xA xn xc] 36)).grown hgr2 (by simp; omega)
  have hB92 := (Blk.new w1 36 #[.int .i64 xk, .int .i64 xa, .int .i64 xv, .slice xA xn xc]).grown hgr2 (by simp; omega)
  have hE2 := (HE1.out.alloc (.cells #[.int .i64 xk, .int .i64 xa, .int .i64 xv, .slice xA xn xc] 36)).grown hgr2 (by intro g hg; simp at hg; omega)
  obtain ⟨⟨z0, z1, z2, z3⟩, zf0, zf1, zf2, zf3⟩ := hZ2.four
  obtain ⟨⟨b0, b1, b2, b3⟩, bf0, bf1, bf2, bf3⟩ := hB92.four
  have hG2 : w.grownBy w2 (some b) := grown_trans (grown_alloc hG1 _) hgr2
  have hq2 := may_calm (orP un p).2 [45, 62]
  have HQ2 := Lib.hid hP2; have HZ2 := Lib.hid hZ2; have HB92 := Lib.hid hB92; have HE2 := Lib.hid hE2; have HM := Lib.hid hq2
  clear hP2 hZ2 hB92 hE2 hq2 c2 bf0 bf1 bf2 bf3
  have hfin : impP un imp p = if ((orP un p).2.may [45, 62]).1 then (.node 7 (orP un p).2.at_ 0 [(orP un p).1, (within imp ((orP un p).2.may [45, 62]).2).1], (within imp ((orP un p).2.may [45, 62]).2).2) else ((orP un p).1, ((orP un p).2.may [45, 62]).2) := rfl
  have HF := Lib.hid hfin; clear hfin
  cases hm : ((orP un p).2.may [45, 62]).1
  · have Hm := Lib.hid hm; clear hm
    go_wp2_with fail
    rw [HF.out, Hm.out]
    exact ret_expr rfl w.heap.size _ _ _ _ rfl rfl (HZ2.out.put4 _ _ _ _) ⟨_, rfl, ExprV.mono (by intro g _ h; have := h.1; omega) _ _ (HE2.out.put4 (by omega) _ _ _ _), grown_fresh4 hG2 (by omega) _ _ _ _, HQ2.out.put4 (by omega) _ _ _ _⟩
  · have Hm := Lib.hid hm; clear hm
    clear zf0 zf1 zf2 zf3 z0 z1 z2 z3
    go_wp2_with fail
    go_region_with (first
      | (go_at_call 63; refine (within_any 44 imp s hs d hd enters_imp HI.out (fun p hp => (HCI.out p hp).1) _ b ((orP un p).2.may [45, 62]).2 (HQ2.out.drew) (HM.out.1.trans HD1.out)).mono ?_; rintro e w3 ⟨x3, rfl, hE3, hgr3, hP3⟩;
         obtain ⟨rk, ra, rv, rA, rn, rc, rfl⟩ := hE3.four;
         have hgr3 := grown_of_drew hgr3;
         have hZ3 := HZ2.out.grown hgr3 (by simp; omega);
         have hB93 := HB92.out.grown hgr3 (by simp; omega);
         have hltZ := hZ3.lt;
         obtain ⟨⟨z0, z1, z2, z3⟩, zf0, zf1, zf2, zf3⟩ := hZ3.four;
         obtain ⟨⟨d0, d1, d2, d3⟩, df0, df1, df2, df3⟩ := hB93.four;
         have HE3 := Lib.hid hE3; have HP3 := Lib.hid hP3; have HZ3 := Lib.hid hZ3; clear hE3 hP3 hZ3 hB93))
    all_goals
      go_wp2_with fail
      have hsz3 := hgr3.size
      rw [HF.out, Hm.out]
      refine ret_expr rfl w.heap.size _ _ _ _ rfl rfl ((HZ3.out.put4 _ _ _ _).alloc _) ⟨_, rfl, ?_, grown_alloc (grown_fresh4 (grown_trans hG2 hgr3) (by omega) _ _ _ _) _, (HP3.out.put4 (by omega) _ _ _ _).keep (below1 _ _)⟩
      refine ExprV.two (T := 36) (ExprV.alloc (ExprV.mono (by intro g _ h; have := h.1; omega) _ _ (ExprV.put4 ((HE2.out.grown hgr3 (by intro g hg; simp at hg; omega))) (by simp) _ _ _ _)) _) (ExprV.alloc (ExprV.mono (ok := fun g => w2.heap.size ≤ g) (by intro g h1 h2; omega) _ _ (ExprV.put4 HE3.out (by simp; omega) _ _ _ _)) _) (by omega) ?_ _ _ _ _
      have := Blk.new ((((w3.setCell ⟨w.heap.size, 0, none⟩ (.int .i64 7)).setCell ⟨w.heap.size, 1, none⟩ (.int .i64 ((orP un p).2.at_ : Int))).setCell ⟨w.heap.size, 2, none⟩ (.int .i64 0)).setCell ⟨w.heap.size, 3, none⟩ (.slice (some ⟨w3.heap.size, 0, none⟩) 2 2)) 36
        #[.int .i64 xk, .int .i64 xa, .int .i64 xv, .slice xA xn xc, .int .i64 rk, .int .i64 ra, .int .i64 rv, .slice rA rn rc]
      simpa using this
end Go.Proofs.Ytmjpecjciibngaa
