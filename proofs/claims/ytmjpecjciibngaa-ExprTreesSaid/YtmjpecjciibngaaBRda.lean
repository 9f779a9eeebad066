/- The reader in memory: and, xor, or, iff, imp. The reader in memory: what stands behind all, any. The reader in memory: un. -/
import Derived.Test.YtmjpecjciibngaaRd4
namespace Go.Proofs.Ytmjpecjciibngaa
open Go.RowKit
set_option linter.unusedVariables false
instance (t : Bs) : Decidable (good t) := inferInstanceAs (Decidable (_ ∧ _))

set_option maxRecDepth 100000 in
theorem and_any (R : Rd) (s : Bs) (hs : s.length ≤ 4000) (d : Nat) (hR : Does 87 R s d) (hC : Calm R d) : Does 83 (chain [38] 4 R) s d := by
  intro w b p hP hpd
  have hlt := hP.blk.lt
  have HP := Lib.hid hP; have HR := Lib.hid hR; have HC := Lib.hid hC; have HD := Lib.hid hpd
  clear hP hR hC hpd
  go_enter Try.func83, Try.ntmps83
  go_wp2_with fail
  refine (chain_un R s [38] 4 hs (by decide) d HR.out HC.out _ b p (HP.out.keep (below1 _ _)) HD.out).mono ?_
  rintro e w1 ⟨x, rfl, hE, hgr, hP1⟩
  obtain ⟨xk, xa, xv, xA, xn, xc, rfl⟩ := hE.four
  have hZ := (Blk.new w 36 zeroExpr).grown hgr (by simp; omega)
  have hE1 : ExprV (fun g => w.heap.size < g) w1 (chain [38] 4 R p).1 (.agg #[.int .i64 xk, .int .i64 xa, .int .i64 xv, .slice xA xn xc]) := ExprV.mono (by intro g h1 h2; simp at h2; omega) _ _ hE
  have hG1 : w.grownBy w1 (some b) := grown_trans (grown_alloc (World.grownBy.refl _ _) _) hgr
  obtain ⟨⟨z0, z1, z2, z3⟩, zf0, zf1, zf2, zf3⟩ := hZ.four
  have HE1 := Lib.hid hE1; have HP1 := Lib.hid hP1; have HZ := Lib.hid hZ
  clear hE hE1 hP1 hZ hgr
  go_wp2_with fail
  exact ret_expr rfl w.heap.size _ _ _ _ rfl rfl (HZ.out.put4 _ _ _ _) ⟨_, rfl, ExprV.mono (by intro g _ h; omega) _ _ (HE1.out.put4 (by omega) _ _ _ _), grown_fresh4 hG1 (by omega) _ _ _ _, HP1.out.put4 (by omega) _ _ _ _⟩

set_option maxRecDepth 100000 in
theorem xor_any (R : Rd) (s : Bs) (hs : s.length ≤ 4000) (d : Nat) (hR : Does 83 R s d) (hC : Calm R d) : Does 77 (chain [94] 6 R) s d := by
  intro w b p hP hpd
  have hlt := hP.blk.lt
  have HP := Lib.hid hP; have HR := Lib.hid hR; have HC := Lib.hid hC; have HD := Lib.hid hpd
  clear hP hR hC hpd
  go_enter Try.func77, Try.ntmps77
  go_wp2_with fail
  refine (chain_and R s [94] 6 hs (by decide) d HR.out HC.out _ b p (HP.out.keep (below1 _ _)) HD.out).mono ?_
  rintro e w1 ⟨x, rfl, hE, hgr, hP1⟩
  obtain ⟨xk, xa, xv, xA, xn, xc, rfl⟩ := hE.four
  have hZ := (Blk.new w 36 zeroExpr).grown hgr (by simp; omega)
  have hE1 : ExprV (fun g => w.heap.size < g) w1 (chain [94] 6 R p).1 (.agg #[.int .i64 xk, .int .i64 xa, .int .i64 xv, .slice xA xn xc]) := ExprV.mono (by intro g h1 h2; simp at h2; omega) _ _ hE
  have hG1 : w.grownBy w1 (some b) := grown_trans (grown_alloc (World.grownBy.refl _ _) _) hgr
  obtain ⟨⟨z0, z1, z2, z3⟩, zf0, zf1, zf2, zf3⟩ := hZ.four
  have HE1 := Lib.hid hE1; have HP1 := Lib.hid hP1; have HZ := Lib.hid hZ
  clear hE hE1 hP1 hZ hgr
  go_wp2_with fail
  exact ret_expr rfl w.heap.size _ _ _ _ rfl rfl (HZ.out.put4 _ _ _ _) ⟨_, rfl, ExprV.mono (by intro g _ h; omega) _ _ (HE1.out.put4 (by omega) _ _ _ _), grown_fresh4 hG1 (by omega) _ _ _ _, HP1.out.put4 (by omega) _ _ _ _⟩

set_option maxRecDepth 100000 in
theorem or_any (R : Rd) (s : Bs) (hs : s.length ≤ 4000) (d : Nat) (hR : Does 77 R s d) (hC : Calm R d) : Does 62 (chain [124] 5 R) s d := by
  intro w b p hP hpd
  have hlt := hP.blk.lt
  have HP := Lib.hid hP; have HR := Lib.hid hR; have HC := Lib.hid hC; have HD := Lib.hid hpd
  clear hP hR hC hpd
  go_enter Try.func62, Try.ntmps62
  go_wp2_with fail
  refine (chain_xor R s [124] 5 hs (by decide) d HR.out HC.out _ b p (HP.out.keep (below1 _ _)) HD.out).mono ?_
  rintro e w1 ⟨x, rfl, hE, hgr, hP1⟩
  obtain ⟨xk, xa, xv, xA, xn, xc, rfl⟩ := hE.four
  have hZ := (Blk.new w 36 zeroExpr).grown hgr (by simp; omega)
  have hE1 : ExprV (fun g => w.heap.size < g) w1 (chain [124] 5 R p).1 (.agg #[.int .i64 xk, .int .i64 xa, .int .i64 xv, .slice xA xn xc]) := ExprV.mono (by intro g h1 h2; simp at h2; omega) _ _ hE
  have hG1 : w.grownBy w1 (some b) := grown_trans (grown_alloc (World.grownBy.refl _ _) _) hgr
  obtain ⟨⟨z0, z1, z2, z3⟩, zf0, zf1, zf2, zf3⟩ := hZ.four
  have HE1 := Lib.hid hE1; have HP1 := Lib.hid hP1; have HZ := Lib.hid hZ
  clear hE hE1 hP1 hZ hgr
  go_wp2_with fail
  exact ret_expr rfl w.heap.size _ _ _ _ rfl rfl (HZ.out.put4 _ _ _ _) ⟨_, rfl, ExprV.mono (by intro g _ h; omega) _ _ (HE1.out.put4 (by omega) _ _ _ _), grown_fresh4 hG1 (by omega) _ _ _ _, HP1.out.put4 (by omega) _ _ _ _⟩

set_option maxRecDepth 100000 in
theorem iff_any (R : Rd) (s : Bs) (hs : s.length ≤ 4000) (d : Nat) (hR : Does 44 R s d) (hC : Calm R d) : Does 31 (chain [60, 45, 62] 8 R) s d := by
  intro w b p hP hpd
  have hlt := hP.blk.lt
  have HP := Lib.hid hP; have HR := Lib.hid hR; have HC := Lib.hid hC; have HD := Lib.hid hpd
  clear hP hR hC hpd
  go_enter Try.func31, Try.ntmps31
  go_wp2_with fail
  refine (chain_imp R s [60, 45, 62] 8 hs (by decide) d HR.out HC.out _ b p (HP.out.keep (below1 _ _)) HD.out).mono ?_
  rintro e w1 ⟨x, rfl, hE, hgr, hP1⟩
  obtain ⟨xk, xa, xv, xA, xn, xc, rfl⟩ := hE.four
  have hZ := (Blk.new w 36 zeroExpr).grown hgr (by simp; omega)
  have hE1 : ExprV (fun g => w.heap.size < g) w1 (chain [60, 45, 62] 8 R p).1 (.agg #[.int .i64 xk, .int .i64 xa, .int .i64 xv, .slice xA xn xc]) := ExprV.mono (by intro g h1 h2; simp at h2; omega) _ _ hE
  have hG1 : w.grownBy w1 (some b) := grown_trans (grown_alloc (World.grownBy.refl _ _) _) hgr
  obtain ⟨⟨z0, z1, z2, z3⟩, zf0, zf1, zf2, zf3⟩ := hZ.four
  have HE1 := Lib.hid hE1; have HP1 := Lib.hid hP1; have HZ := Lib.hid hZ
  clear hE hE1 hP1 hZ hgr
  go_wp2_with fail
  exact ret_expr rfl w.heap.size _ _ _ _ rfl rfl (HZ.out.put4 _ _ _ _) ⟨_, rfl, ExprV.mono (by intro g _ h; omega) _ _ (HE1.out.put4 (by omega) _ _ _ _), grown_fresh4 hG1 (by omega) _ _ _ _, HP1.out.put4 (by omega) _ _ _ _⟩

theorem enters_imp (args : Array Value) (W : World) : (callFunc 44 args).run Try.prog W = .ok (.enter 44 args) W := by rfl
theorem enters_un (args : Array Value) (W : World) : (callFunc 87 args).run Try.prog W = .ok (.enter 87 args) W := by rfl
theorem enters_iff (args : Array Value) (W : World) : (callFunc 31 args).run Try.prog W = .ok (.enter 31 args) W := by rfl

set_option maxRecDepth 100000 in
set_option maxHeartbeats 4000000 in
theorem imp_any (un imp : Rd) (s : Bs) (hs : s.length ≤ 4000) (d : Nat) (hd : d ≤ 30) (hun : Does 87 un s d) (hcu : Calm un d)
    (himp : d < 30 → Does 44 imp s (d + 1)) (hci : Calm imp (d + 1)) : Does 44 (impP un imp) s d := by
  have hor := or_any _ s hs d (xor_any _ s hs d (and_any _ s hs d hun hcu) (chain_calm hcu _ _)) (chain_calm (chain_calm hcu _ _) _ _)
  have hoc : Calm (orP un) d := chain_calm (chain_calm (chain_calm hcu _ _) _ _) _ _
  change Does _ (orP un) s d at hor
  intro w b p hP hpd
  have hlt := hP.blk.lt
  have HP := Lib.hid hP; have HO := Lib.hid hor; have HC := Lib.hid hoc; have HD := Lib.hid hpd; have HI := Lib.hid himp; have HCI := Lib.hid hci
  clear hP hor hoc hpd hun hcu himp hci
  go_enter Try.func44, Try.ntmps44
  go_wp2_with fail
  refine (HO.out _ b p (HP.out.keep (below1 _ _)) HD.out).mono ?_
  rintro e w1 ⟨x, rfl, hE, hgr, hP1⟩
  obtain ⟨xk, xa, xv, xA, xn, xc, rfl⟩ := hE.four
  have hsz1 := hgr.size
  simp only [World.size_alloc] at hsz1
  have hZ := (Blk.new w 36 zeroExpr).grown hgr (by simp; omega)
  have hE1 : ExprV (fun g => w.heap.size < g ∧ g < w1.heap.size) w1 (orP un p).1 (.agg #[.int .i64 xk, .int .i64 xa, .int .i64 xv, .slice xA xn xc]) := ExprV.mono (by intro g h1 h2; simp at h2; exact ⟨by omega, h1⟩) _ _ hE
  have hG1 : w.grownBy w1 (some b) := grown_trans (grown_alloc (World.grownBy.refl _ _) _) hgr
  have hd1 := (HC.out p HD.out).1
  have hlb : b < w1.heap.size := by omega
  obtain ⟨⟨c0, c1, c2, c3, c4, c5⟩, f0, f1, f2, f3, f4, f5⟩ := six hP1.blk
  have HE1 := Lib.hid hE1; have HP1 := Lib.hid hP1; have HZ := Lib.hid hZ; have HD1 := Lib.hid hd1
  clear hE hE1 hP1 hZ hd1 hgr c0 c1 c3 c4 c5 f0 f1 f2 f3 f4 f5
  go_wp2_with fail
  refine (may_any b s (orP un p).2 [45, 62] _ hs (HP1.out.keep (below1 _ _)) (by decide)).mono ?_
  rintro e w2 ⟨rfl, hgr2, hP2⟩
  have hsz2 := hgr2.size
  simp only [World.size_alloc] at hsz2
  have hZ2 := (HZ.out.alloc (.cells #[.int .i64 xk, .int .i64 xa, .int .i64 xv, .slice xA xn xc] 36)).grown hgr2 (by simp; omega)
  have hB92 := (Blk.new w1 36 #[.int .i64 xk, .int .i64 xa, .int .i64 xv, .slice xA xn xc]).grown hgr2 (by simp; omega)
  have hE2 := (HE1.out.alloc (.cells #[.int .i64 xk, .int .i64 xa, .int .i64 xv, .slice xA xn xc] 36)).grown hgr2 (by intro g hg; simp at hg; omega)
  obtain ⟨⟨z0, z1, z2, z3⟩, zf0, zf1, zf2, zf3⟩ := hZ2.four
  obtain ⟨⟨b0, b1, b2, b3⟩, bf0, bf1, bf2, bf3⟩ := hB92.four
  have hG2 : w.grownBy w2 (some b) := grown_trans (grown_alloc hG1 _) hgr2
  have hq2 := may_calm (orP un p).2 [45, 62]
  have HQ2 := Lib.hid hP2; have HZ2 := Lib.hid hZ2; have HB92 := Lib.hid hB92; have HE2 := Lib.hid hE2; have HM := Lib.hid hq2
  clear hP2 hZ2 hB92 hE2 hq2 c2 bf0 bf1 bf2 bf3
  have hfin : impP un imp p = if ((orP un p).2.may [45, 62]).1 then (.node 7 (orP un p).2.at_ 0 [(orP un p).1, (within imp ((orP un p).2.may [45, 62]).2).1], (within imp ((orP un p).2.may [45, 62]).2).2) else ((orP un p).1, ((orP un p).2.may [45, 62]).2) := rfl
  have HF := Lib.hid hfin; clear hfin
  cases hm : ((orP un p).2.may [45, 62]).1
  · have Hm := Lib.hid hm; clear hm
    go_wp2_with fail
    rw [HF.out, Hm.out]
    exact ret_expr rfl w.heap.size _ _ _ _ rfl rfl (HZ2.out.put4 _ _ _ _) ⟨_, rfl, ExprV.mono (by intro g _ h; have := h.1; omega) _ _ (HE2.out.put4 (by omega) _ _ _ _), grown_fresh4 hG2 (by omega) _ _ _ _, HQ2.out.put4 (by omega) _ _ _ _⟩
  · have Hm := Lib.hid hm; clear hm
    clear zf0 zf1 zf2 zf3 z0 z1 z2 z3
    go_wp2_with fail
    go_region_with (first
      | (go_at_call 63; refine (within_any 44 imp s hs d hd enters_imp HI.out (fun p hp => (HCI.out p hp).1) _ b ((orP un p).2.may [45, 62]).2 (HQ2.out.drew) (HM.out.1.trans HD1.out)).mono ?_; rintro e w3 ⟨x3, rfl, hE3, hgr3, hP3⟩;
         obtain ⟨rk, ra, rv, rA, rn, rc, rfl⟩ := hE3.four;
         have hgr3 := grown_of_drew hgr3;
         have hZ3 := HZ2.out.grown hgr3 (by simp; omega);
         have hB93 := HB92.out.grown hgr3 (by simp; omega);
         have hltZ := hZ3.lt;
         obtain ⟨⟨z0, z1, z2, z3⟩, zf0, zf1, zf2, zf3⟩ := hZ3.four;
         obtain ⟨⟨d0, d1, d2, d3⟩, df0, df1, df2, df3⟩ := hB93.four;
         have HE3 := Lib.hid hE3; have HP3 := Lib.hid hP3; have HZ3 := Lib.hid hZ3; clear hE3 hP3 hZ3 hB93))
    all_goals
      go_wp2_with fail
      have hsz3 := hgr3.size
      rw [HF.out, Hm.out]
      refine ret_expr rfl w.heap.size _ _ _ _ rfl rfl ((HZ3.out.put4 _ _ _ _).alloc _) ⟨_, rfl, ?_, grown_alloc (grown_fresh4 (grown_trans hG2 hgr3) (by omega) _ _ _ _) _, (HP3.out.put4 (by omega) _ _ _ _).keep (below1 _ _)⟩
      refine ExprV.two (T := 36) (ExprV.alloc (ExprV.mono (by intro g _ h; have := h.1; omega) _ _ (ExprV.put4 ((HE2.out.grown hgr3 (by intro g hg; simp at hg; omega))) (by simp) _ _ _ _)) _) (ExprV.alloc (ExprV.mono (ok := fun g => w2.heap.size ≤ g) (by intro g h1 h2; omega) _ _ (ExprV.put4 HE3.out (by simp; omega) _ _ _ _)) _) (by omega) ?_ _ _ _ _
      have := Blk.new ((((w3.setCell ⟨w.heap.size, 0, none⟩ (.int .i64 7)).setCell ⟨w.heap.size, 1, none⟩ (.int .i64 ((orP un p).2.at_ : Int))).setCell ⟨w.heap.size, 2, none⟩ (.int .i64 0)).setCell ⟨w.heap.size, 3, none⟩ (.slice (some ⟨w3.heap.size, 0, none⟩) 2 2)) 36
        #[.int .i64 xk, .int .i64 xa, .int .i64 xv, .slice xA xn xc, .int .i64 rk, .int .i64 ra, .int .i64 rv, .slice rA rn rc]
      simpa using this
end Go.Proofs.Ytmjpecjciibngaa
namespace Go.Proofs.Ytmjpecjciibngaa
open Go.RowKit
set_option linter.unusedVariables false

theorem isVar_form {v : Bs} (h : isVar v = true) : ∃ c : UInt8, v = [118, c] ∧ 48 ≤ c.toNat ∧ c.toNat ≤ 55 := by
  unfold isVar at h
  split at h
  · rename_i a b
    simp only [Bool.and_eq_true, beq_iff_eq, decide_eq_true_eq] at h
    exact ⟨b, by rw [h.1], h.2.1, h.2.2⟩
  · cases h
theorem isVar_good {v : Bs} (h : isVar v = true) : good v := by
  obtain ⟨c, rfl, _, _⟩ := isVar_form h
  exact ⟨by simp, by simp⟩
theorem str_size2 (a c : UInt8) : (str [a, c]).size = 2 := rfl
theorem str_idx1 (a c : UInt8) (h : 1 < (str [a, c]).size) : (str [a, c])[1]'h = c := rfl
theorem digit_wrap (c : UInt8) (h : 48 ≤ c.toNat) (h2 : c.toNat ≤ 57) : IntKind.u8.wrap ((c.toNat : Int) - 48) = ((c.toNat - 48 : Nat) : Int) := by
  have : IntKind.u8.wrap ((c.toNat : Int) - 48) = ((c.toNat : Int) - 48) % 256 := by simp [IntKind.wrap, IntKind.bits, IntKind.signed]
  rw [this]; omega

set_option maxRecDepth 100000 in
set_option maxHeartbeats 4000000 in
theorem bound_any (un : Rd) (kind at_ : Int) (s : Bs) (hs : s.length ≤ 4000) (d : Nat) (hd : d ≤ 30)
    (hun : d < 30 → Does 87 un s (d + 1)) (hcu : Calm un (d + 1)) (w : World) (b : Nat) (p : PS) (hP : PM w b s p) (hpd : p.depth = d) :
    Calls Try.prog 88 #[.pointer (some ⟨b, 0, none⟩), .int .i64 kind, .int .i64 at_] w fun e' w' =>
      ∃ x, e' = .returned x ∧ ExprV (fun g => w.heap.size ≤ g) w' (boundP un kind at_ p).1 x ∧ w.grownBy w' (some b) ∧ PM w' b s (boundP un kind at_ p).2 := by
  have hlt := hP.blk.lt
  obtain ⟨⟨c0, c1, c2, c3, c4, c5⟩, f0, f1, f2, f3, f4, f5⟩ := six hP.blk
  have HP := Lib.hid hP; have HD := Lib.hid hpd; have HU := Lib.hid hun; have HC := Lib.hid hcu
  clear hP hpd hun hcu c0 c2 c3 c4 c5 f0 f1 f2 f3 f4 f5
  cases hv : isVar p.hd.1
  · have hb : boundP un kind at_ p = (.zero, p.bad 230) := by unfold boundP; simp [hv]
    rw [hb]
    have HV := Lib.hid hv; clear hv hb
    go_enter Try.func88, Try.ntmps88
    go_wp2_with fail
    refine (variable_any (str p.hd.1) _).mono ?_
    rintro e w1 ⟨rfl, rfl⟩
    rw [data_str, HV.out]
    go_wp2_with fail
    refine (bad_any b s p 230 _ (HP.out.keep (below1 _ _))).mono ?_
    rintro e w1 ⟨rfl, hgr, hP1⟩
    have hZ := (Blk.new w 36 zeroExpr).grown hgr (by simp; omega)
    obtain ⟨⟨z0, z1, z2, z3⟩, zf0, zf1, zf2, zf3⟩ := hZ.four
    have hG1 : w.grownBy w1 (some b) := grown_trans (grown_alloc (World.grownBy.refl _ _) _) hgr
    have HP1 := Lib.hid hP1; have HZ := Lib.hid hZ
    clear hP1 hZ hgr
    go_wp2_with fail
    exact ret_expr rfl w.heap.size _ _ _ _ rfl rfl (HZ.out.put4 _ _ _ _) ⟨_, rfl, ExprV.zero _ _, grown_fresh4 hG1 (by omega) _ _ _ _, HP1.out.put4 (by omega) _ _ _ _⟩
  · have hg := isVar_good hv
    have hb : boundP un kind at_ p = (.node kind at_ (digitOf p.hd.1 1) [(within un p.goes).1], (within un p.goes).2) := by unfold boundP; simp [hv]
    rw [hb]
    obtain ⟨c, hvc, hc1, hc2⟩ := isVar_form hv
    have HV := Lib.hid hv; have HG := Lib.hid hg; have Hvc := Lib.hid hvc
    have hdig : digitOf p.hd.1 1 = c.toNat - 48 := by rw [hvc]; rfl
    have Hdig := Lib.hid hdig
    rw [hvc] at c1
    have hix : ∀ W : World, (Instr.index 9 (.string (str [118, c])) (.int .i64 1)).run Try.prog W = .ok (.int .u8 (c.toNat : Int)) W := fun _ => by rfl
    have hwr := digit_wrap c hc1 (by omega)
    have hwr2 : IntKind.i64.wrap ((c.toNat - 48 : Nat) : Int) = ((c.toNat - 48 : Nat) : Int) := IntWalk.i64_in _ (by omega)
    clear hv hg hvc hb hdig
    go_enter Try.func88, Try.ntmps88
    go_wp2_with fail
    refine (variable_any (str [118, c]) _).mono ?_
    rintro e w1 ⟨rfl, rfl⟩
    rw [data_str, show isVar [118, c] = true from Hvc.out ▸ HV.out]
    go_wp2_with fail
    refine (goes_any b s p _ hs (HP.out.keep (below1 _ _)) HG.out).mono ?_
    rintro e w1 ⟨rfl, hgr, hP1⟩
    have hZ := (Blk.new w 36 zeroExpr).grown hgr (by simp; omega)
    have hG1 : w.grownBy w1 (some b) := grown_trans (grown_alloc (World.grownBy.refl _ _) _) hgr
    have hsz1 := hgr.size
    simp only [World.size_alloc] at hsz1
    have HP1 := Lib.hid hP1; have HZ := Lib.hid hZ
    clear hP1 hZ hgr
    go_wp2_with fail
    go_region_with (first
      | (go_at_call 63; refine (within_any 87 un s hs d hd enters_un HU.out (fun p hp => (HC.out p hp).1) _ b p.goes (HP1.out.drew) HD.out).mono ?_; rintro e w3 ⟨x3, rfl, hE3, hgr3, hP3⟩;
         obtain ⟨rk, ra, rv, rA, rn, rc, rfl⟩ := hE3.four;
         have hgr3 := grown_of_drew hgr3;
         have hZ3 := HZ.out.grown hgr3 (by simp; omega);
         have hltZ := hZ3.lt;
         obtain ⟨⟨z0, z1, z2, z3⟩, zf0, zf1, zf2, zf3⟩ := hZ3.four;
         have HE3 := Lib.hid hE3; have HP3 := Lib.hid hP3; have HZ3 := Lib.hid hZ3; clear hE3 hP3 hZ3))
    all_goals
      go_wp2_with fail
      have hsz3 := hgr3.size
      rw [Hdig.out]
      refine ret_expr rfl w.heap.size _ _ _ _ rfl rfl ((HZ3.out.put4 _ _ _ _).alloc _) ⟨_, rfl, ?_, grown_alloc (grown_fresh4 (grown_trans hG1 hgr3) (by omega) _ _ _ _) _, (HP3.out.put4 (by omega) _ _ _ _).keep (below1 _ _)⟩
      refine ExprV.one (T := 36) (ExprV.alloc (ExprV.mono (ok := fun g => w1.heap.size ≤ g) (by intro g h1 h2; omega) _ _ (ExprV.put4 HE3.out (by simp; omega) _ _ _ _)) _) (by omega) ?_ _ _ _ _
      have := Blk.new ((((w3.setCell ⟨w.heap.size, 0, none⟩ (.int .i64 kind)).setCell ⟨w.heap.size, 1, none⟩ (.int .i64 at_)).setCell ⟨w.heap.size, 2, none⟩ (.int .i64 ((c.toNat - 48 : Nat) : Int))).setCell ⟨w.heap.size, 3, none⟩ (.slice (some ⟨w3.heap.size, 0, none⟩) 1 1)) 36
        #[.int .i64 rk, .int .i64 ra, .int .i64 rv, .slice rA rn rc]
      simpa using this
end Go.Proofs.Ytmjpecjciibngaa
namespace Go.Proofs.Ytmjpecjciibngaa
open Go.RowKit
set_option linter.unusedVariables false

/-- The end of a reader: what was read is laid into the result's block. -/
theorem lay_ret {fn : Func} {w w1 : World} {a : Act} {b g : Nat} {s : Bs} {T : Tree} {q : PS} {p : Tmp} {k a' v : Int} {A : Option Addr} {n c : Nat} {z0 z1 z2 z3 : Value} (hr : fn.results = #[.cell p 36])
    (hp : a.tmps.getD p undef = .pointer (some ⟨g, 0, none⟩)) (hd : a.defers = []) (hZ : Blk w1 g 36 #[z0, z1, z2, z3]) (hgb : b ≠ g) (hwg : w.heap.size ≤ g)
    (hE : ExprV (fun x => w.heap.size ≤ x ∧ x ≠ g) w1 T (.agg #[.int .i64 k, .int .i64 a', .int .i64 v, .slice A n c])) (hG : w.grownBy w1 (some b)) (hP : PM w1 b s q) :
    bodyPost Try.prog fn (fun e' w' => ∃ x, e' = .returned x ∧ ExprV (fun x => w.heap.size ≤ x) w' T x ∧ w.grownBy w' (some b) ∧ PM w' b s q) .ret a
      ((((w1.setCell ⟨g, 0, none⟩ (.int .i64 k)).setCell ⟨g, 1, none⟩ (.int .i64 a')).setCell ⟨g, 2, none⟩ (.int .i64 v)).setCell ⟨g, 3, none⟩ (.slice A n c)) :=
  ret_expr hr g _ _ _ _ hp hd (hZ.put4 _ _ _ _) ⟨_, rfl, ExprV.mono (by intro x _ h; exact h.1) _ _ (hE.put4 (by simp) _ _ _ _), grown_fresh4 hG hwg _ _ _ _, hP.put4 hgb _ _ _ _⟩
theorem lay_ret1 {fn : Func} {w w1 : World} {a : Act} {b g : Nat} {s : Bs} {T : Tree} {q : PS} {p : Tmp} {k a' v rk ra rv : Int} {rA : Option Addr} {rn rc : Nat} {z0 z1 z2 z3 : Value} (hr : fn.results = #[.cell p 36])
    (hp : a.tmps.getD p undef = .pointer (some ⟨g, 0, none⟩)) (hd : a.defers = []) (hZ : Blk w1 g 36 #[z0, z1, z2, z3]) (hgb : b ≠ g) (hwg : w.heap.size ≤ g) (hg1 : g < w1.heap.size)
    (hE : ExprV (fun x => w.heap.size ≤ x ∧ x ≠ g) w1 T (.agg #[.int .i64 rk, .int .i64 ra, .int .i64 rv, .slice rA rn rc])) (hG : w.grownBy w1 (some b)) (hP : PM w1 b s q) :
    bodyPost Try.prog fn (fun e' w' => ∃ x, e' = .returned x ∧ ExprV (fun x => w.heap.size ≤ x) w' (.node k a' v [T]) x ∧ w.grownBy w' (some b) ∧ PM w' b s q) .ret a
      (((((w1.setCell ⟨g, 0, none⟩ (.int .i64 k)).setCell ⟨g, 1, none⟩ (.int .i64 a')).setCell ⟨g, 2, none⟩ (.int .i64 v)).setCell ⟨g, 3, none⟩ (.slice (some ⟨w1.heap.size, 0, none⟩) 1 1)).alloc
        (.cells #[.int .i64 rk, .int .i64 ra, .int .i64 rv, .slice rA rn rc] 36)) := by
  refine ret_expr hr g _ _ _ _ hp hd ((hZ.put4 _ _ _ _).alloc _) ⟨_, rfl, ?_, grown_alloc (grown_fresh4 hG hwg _ _ _ _) _, (hP.put4 hgb _ _ _ _).keep (below1 _ _)⟩
  refine ExprV.one (T := 36) (ExprV.alloc (ExprV.mono (by intro x _ h; exact h.1) _ _ (hE.put4 (by simp) _ _ _ _)) _) (by omega) ?_ _ _ _ _
  have := Blk.new ((((w1.setCell ⟨g, 0, none⟩ (.int .i64 k)).setCell ⟨g, 1, none⟩ (.int .i64 a')).setCell ⟨g, 2, none⟩ (.int .i64 v)).setCell ⟨g, 3, none⟩ (.slice (some ⟨w1.heap.size, 0, none⟩) 1 1)) 36
    #[.int .i64 rk, .int .i64 ra, .int .i64 rv, .slice rA rn rc]
  simpa using this

set_option maxRecDepth 100000 in
set_option maxHeartbeats 4000000 in
theorem un_any (un iff_ : Rd) (s : Bs) (hs : s.length ≤ 4000) (d : Nat) (hd : d ≤ 30)
    (hun : d < 30 → Does 87 un s (d + 1)) (hcu : Calm un (d + 1)) (hpr : Does 89 (primP iff_) s d) : Does 87 (unP un iff_) s d := by
  intro w b p hP hpd
  have hlt := hP.blk.lt
  obtain ⟨⟨c0, c1, c2, c3, c4, c5⟩, f0, f1, f2, f3, f4, f5⟩ := six hP.blk
  have HP := Lib.hid hP; have HD := Lib.hid hpd; have HU := Lib.hid hun; have HC := Lib.hid hcu; have HPr := Lib.hid hpr
  clear hP hpd hun hcu hpr c0 c1 c3 c5 f0 f1 f2 f3 f4 f5
  by_cases he : p.e = 0
  · have hF : unP un iff_ p = (let m := p.may [33]
      if m.1 then (.node 3 p.at_ 0 [(within un m.2).1], (within un m.2).2)
      else
        let m2 := m.2.may [97, 108, 108]
        if m2.1 then boundP un 10 p.at_ m2.2
        else
          let m3 := m2.2.may [97, 110, 121]
          if m3.1 then boundP un 11 p.at_ m3.2 else primP iff_ m3.2) := by unfold unP; simp [he]
    have HF := Lib.hid hF
    rw [he] at c4
    clear hF he
    go_enter Try.func87, Try.ntmps87
    go_wp2_with fail
    refine (may_any b s p [33] _ hs (HP.out.keep (below1 _ _)) (by decide)).mono ?_
    rintro e w1 ⟨rfl, hgr, hP1⟩
    have hG1 : w.grownBy w1 (some b) := grown_trans (grown_alloc (World.grownBy.refl _ _) _) hgr
    have hsz1 := hgr.size
    simp only [World.size_alloc] at hsz1
    have hZ1 := (Blk.new w 36 zeroExpr).grown hgr (by simp; omega)
    have HP1 := Lib.hid hP1; have HZ1 := Lib.hid hZ1
    have hq1 := Lib.hid (may_calm p [33])
    clear hP1 hZ1 hgr c2 c4
    cases hm : (p.may [33]).1
    · have Hm := Lib.hid hm; clear hm
      go_wp2_with fail
      refine (may_any b s (p.may [33]).2 [97, 108, 108] _ hs HP1.out (by decide)).mono ?_
      rintro e w2 ⟨rfl, hgr, hP1⟩
      have hG2 := grown_trans hG1 hgr
      have hsz2 := hgr.size
      have hZ2 := HZ1.out.grown hgr (by simp; omega)
      have HP2 := Lib.hid hP1; have HZ2 := Lib.hid hZ2
      have hq2 := Lib.hid (may_calm (p.may [33]).2 [97, 108, 108])
      clear hP1 hZ2 hgr
      cases hm : ((p.may [33]).2.may [97, 108, 108]).1
      · have Hm2 := Lib.hid hm; clear hm
        go_wp2_with fail
        refine (may_any b s ((p.may [33]).2.may [97, 108, 108]).2 [97, 110, 121] _ hs HP2.out (by decide)).mono ?_
        rintro e w3 ⟨rfl, hgr, hP1⟩
        have hG3 := grown_trans hG2 hgr
        have hsz3 := hgr.size
        have hZ3 := HZ2.out.grown hgr (by simp; omega)
        have HP3 := Lib.hid hP1; have HZ3 := Lib.hid hZ3
        have hq3 := Lib.hid (may_calm ((p.may [33]).2.may [97, 108, 108]).2 [97, 110, 121])
        clear hP1 hZ3 hgr
        cases hm : (((p.may [33]).2.may [97, 108, 108]).2.may [97, 110, 121]).1
        · have Hm3 := Lib.hid hm; clear hm
          go_wp2_with fail
          refine (HPr.out _ b (((p.may [33]).2.may [97, 108, 108]).2.may [97, 110, 121]).2 HP3.out (hq3.out.1.trans (hq2.out.1.trans (hq1.out.1.trans HD.out)))).mono ?_
          rintro e w4 ⟨x, rfl, hE, hgr, hP4⟩
          obtain ⟨rk, ra, rv, rA, rn, rc, rfl⟩ := hE.four
          have hsz4 := hgr.size
          have hZ4 := HZ3.out.grown hgr (by simp; omega)
          have hltZ := hZ4.lt
          have hG4 := grown_trans hG3 hgr
          have hE4 : ExprV (fun x => w.heap.size ≤ x ∧ x ≠ w.heap.size) _ _ _ := ExprV.mono (by intro g _ h; exact ⟨by omega, by omega⟩) _ _ hE
          obtain ⟨⟨z0, z1, z2, z3⟩, zf0, zf1, zf2, zf3⟩ := hZ4.four
          have HZ4 := Lib.hid hZ4; have HE := Lib.hid hE4; have HP4 := Lib.hid hP4
          clear hE hZ4 hE4 hP4 hgr
          go_wp2_with fail
          rw [show unP un iff_ p = primP iff_ (((p.may [33]).2.may [97, 108, 108]).2.may [97, 110, 121]).2 by rw [HF.out]; simp only [Hm.out, Hm2.out, Hm3.out]; rfl]
          exact lay_ret rfl rfl rfl HZ4.out (by omega) (Nat.le_refl _) HE.out hG4 HP4.out
        · have Hm3 := Lib.hid hm; clear hm
          go_wp2_with fail
          refine (bound_any un 11 p.at_ s hs d hd HU.out HC.out _ b (((p.may [33]).2.may [97, 108, 108]).2.may [97, 110, 121]).2 HP3.out (hq3.out.1.trans (hq2.out.1.trans (hq1.out.1.trans HD.out)))).mono ?_
          rintro e w4 ⟨x, rfl, hE, hgr, hP4⟩
          obtain ⟨rk, ra, rv, rA, rn, rc, rfl⟩ := hE.four
          have hsz4 := hgr.size
          have hZ4 := HZ3.out.grown hgr (by simp; omega)
          have hltZ := hZ4.lt
          have hG4 := grown_trans hG3 hgr
          have hE4 : ExprV (fun x => w.heap.size ≤ x ∧ x ≠ w.heap.size) _ _ _ := ExprV.mono (by intro g _ h; exact ⟨by omega, by omega⟩) _ _ hE
          obtain ⟨⟨z0, z1, z2, z3⟩, zf0, zf1, zf2, zf3⟩ := hZ4.four
          have HZ4 := Lib.hid hZ4; have HE := Lib.hid hE4; have HP4 := Lib.hid hP4
          clear hE hZ4 hE4 hP4 hgr
          go_wp2_with fail
          rw [show unP un iff_ p = boundP un 11 p.at_ (((p.may [33]).2.may [97, 108, 108]).2.may [97, 110, 121]).2 by rw [HF.out]; simp only [Hm.out, Hm2.out, Hm3.out]; rfl]
          exact lay_ret rfl rfl rfl HZ4.out (by omega) (Nat.le_refl _) HE.out hG4 HP4.out
      · have Hm2 := Lib.hid hm; clear hm
        go_wp2_with fail
        refine (bound_any un 10 p.at_ s hs d hd HU.out HC.out _ b ((p.may [33]).2.may [97, 108, 108]).2 HP2.out (hq2.out.1.trans (hq1.out.1.trans HD.out))).mono ?_
        rintro e w4 ⟨x, rfl, hE, hgr, hP4⟩
        have hG3 := hG2; have HZ3 := HZ2; have hsz3 := Nat.le_refl w2.heap.size
        obtain ⟨rk, ra, rv, rA, rn, rc, rfl⟩ := hE.four
        have hsz4 := hgr.size
        have hZ4 := HZ3.out.grown hgr (by simp; omega)
        have hltZ := hZ4.lt
        have hG4 := grown_trans hG3 hgr
        have hE4 : ExprV (fun x => w.heap.size ≤ x ∧ x ≠ w.heap.size) _ _ _ := ExprV.mono (by intro g _ h; exact ⟨by omega, by omega⟩) _ _ hE
        obtain ⟨⟨z0, z1, z2, z3⟩, zf0, zf1, zf2, zf3⟩ := hZ4.four
        have HZ4 := Lib.hid hZ4; have HE := Lib.hid hE4; have HP4 := Lib.hid hP4
        clear hE hZ4 hE4 hP4 hgr
        go_wp2_with fail
        rw [show unP un iff_ p = boundP un 10 p.at_ ((p.may [33]).2.may [97, 108, 108]).2 by rw [HF.out]; simp only [Hm.out, Hm2.out]; rfl]
        exact lay_ret rfl rfl rfl HZ4.out (by omega) (Nat.le_refl _) HE.out hG4 HP4.out
    · have Hm := Lib.hid hm; clear hm
      go_wp2_with fail
      refine (within_any 87 un s hs d hd enters_un HU.out (fun p hp => (HC.out p hp).1) _ b (p.may [33]).2 HP1.out (hq1.out.1.trans HD.out)).mono ?_
      rintro e w4 ⟨x, rfl, hE, hgr, hP4⟩
      have hG3 := hG1; have HZ3 := HZ1; have hsz2 := Nat.le_refl w1.heap.size; have hsz3 := Nat.le_refl w1.heap.size
      obtain ⟨rk, ra, rv, rA, rn, rc, rfl⟩ := hE.four
      have hsz4 := hgr.size
      have hZ4 := HZ3.out.grown hgr (by simp; omega)
      have hltZ := hZ4.lt
      have hG4 := grown_trans hG3 hgr
      have hE4 : ExprV (fun x => w.heap.size ≤ x ∧ x ≠ w.heap.size) _ _ _ := ExprV.mono (by intro g _ h; exact ⟨by omega, by omega⟩) _ _ hE
      obtain ⟨⟨z0, z1, z2, z3⟩, zf0, zf1, zf2, zf3⟩ := hZ4.four
      have HZ4 := Lib.hid hZ4; have HE := Lib.hid hE4; have HP4 := Lib.hid hP4
      clear hE hZ4 hE4 hP4 hgr
      go_wp2_with fail
      rw [show unP un iff_ p = (.node 3 p.at_ 0 [(within un (p.may [33]).2).1], (within un (p.may [33]).2).2) by rw [HF.out]; simp only [Hm.out]; rfl]
      exact lay_ret1 rfl rfl rfl HZ4.out (by omega) (Nat.le_refl _) (by omega) HE.out hG4 HP4.out
  · have he3 : ((p.e : Int) != 0) = true := by rw [bne_iff_ne]; omega
    have hF : unP un iff_ p = (.zero, p) := by unfold unP; simp [he]
    rw [hF]
    clear hF
    go_enter Try.func87, Try.ntmps87
    go_wp2_with fail
    exact ret_expr rfl w.heap.size _ _ _ _ rfl rfl (Blk.new _ _ _) ⟨_, rfl, ExprV.zero _ _, grown_alloc (World.grownBy.refl _ _) _, HP.out.keep (below1 _ _)⟩
end Go.Proofs.Ytmjpecjciibngaa
