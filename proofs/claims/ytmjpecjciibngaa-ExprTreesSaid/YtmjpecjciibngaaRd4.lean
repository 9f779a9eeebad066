/- The reader in memory: things with a sign between. -/
import Derived.Test.YtmjpecjciibngaaChainPure
import Derived.Deep.LoopGhost
import Derived.Deep.RegionWith
namespace Go.Proofs.Ytmjpecjciibngaa
open Go.RowKit
set_option linter.unusedVariables false

set_option maxRecDepth 100000 in
set_option maxHeartbeats 4000000 in
theorem chain_un (R : Rd) (s t : Bs) (kind : Int) (hs : s.length ≤ 4000) (ht : good t) (d : Nat) (hR : Does 87 R s d) (hC : Calm R d)
    (w : World) (b : Nat) (p : PS) (hP : PM w b s p) (hpd : p.depth = d) :
    Calls Try.prog 43 #[.pointer (some ⟨b, 0, none⟩), .string (str t), .int .i64 kind, .func (.func 87) #[] #[]] w fun e' w' =>
      ∃ x, e' = .returned x ∧ ExprV (fun g => w.heap.size ≤ g) w' (chain t kind R p).1 x ∧ w.grownBy w' (some b) ∧ PM w' b s (chain t kind R p).2 := by
  have hlt := hP.blk.lt
  have HP := Lib.hid hP
  have HR := Lib.hid hR
  have HC := Lib.hid hC
  have HD := Lib.hid hpd
  clear hP hR hC hpd
  go_enter Try.func43, Try.ntmps43
  go_wp2_with fail
  refine (HR.out _ b p (HP.out.keep (below1 _ _)) HD.out).mono ?_
  rintro e w1 ⟨x, rfl, hE, hgr, hP1⟩
  obtain ⟨xk, xa, xv, xA, xn, xc, rfl⟩ := hE.four
  have hsz1 := hgr.size
  simp only [World.size_alloc] at hsz1
  have hZ := (Blk.new w 36 zeroExpr).grown hgr (by simp; omega)
  have hE1 : ExprV (fun g => w.heap.size < g ∧ g < w1.heap.size) w1 (R p).1 (.agg #[.int .i64 xk, .int .i64 xa, .int .i64 xv, .slice xA xn xc]) := ExprV.mono (by intro g h1 h2; simp at h2; exact ⟨by omega, h1⟩) _ _ hE
  have hG1 : w.grownBy w1 (some b) := grown_trans (grown_alloc (World.grownBy.refl _ _) _) hgr
  have hd1 := (HC.out p HD.out).1
  have HE1 := Lib.hid hE1; have HP1 := Lib.hid hP1; have HZ := Lib.hid hZ; have HD1 := Lib.hid hd1
  clear hE hE1 hP1 hZ hd1 hgr
  go_wp2_with fail
  obtain ⟨g9, hg9⟩ : ∃ g9, g9 = w1.heap.size := ⟨_, rfl⟩
  have hfin : chain t kind R p = chainGo t kind R (R p).2.toks.length (R p).1 (R p).2 := rfl
  have HF := Lib.hid hfin; clear hfin
  go_loopg [10] (R p).2.toks.length (fun n v wr => ∃ (T : Tree) (q : PS) (xk xa xv : Int) (xA : Option Addr) (xn xc : Nat), chainGo t kind R n T q = chain t kind R p ∧ q.toks.length ≤ n ∧ q.depth = d ∧ PM wr b s q ∧ w.grownBy wr (some b) ∧ w1.heap.size < wr.heap.size ∧
      Blk wr w.heap.size 36 zeroExpr ∧ Blk wr w1.heap.size 36 #[.int .i64 xk, .int .i64 xa, .int .i64 xv, .slice xA xn xc] ∧ ExprV (fun g => w.heap.size < g ∧ g ≠ w1.heap.size) wr T (.agg #[.int .i64 xk, .int .i64 xa, .int .i64 xv, .slice xA xn xc]))
  case atStart =>
    refine ⟨(R p).1, (R p).2, xk, xa, xv, xA, xn, xc, HF.out.symm, Nat.le_refl _, HD1.out, HP1.out.keep (below1 _ _), grown_alloc hG1 _, by simp, HZ.out.alloc _, Blk.new _ _ _, ExprV.mono (by intro g _ h; exact ⟨h.1, by omega⟩) _ _ (HE1.out.alloc _)⟩
  case round =>
    clear HE1 HP1 HZ
    obtain ⟨T, q, yk, ya, yv, yA, yn, yc, hgo, hlen, hqd, hPq, hG, hsz, hZ, hB9, hE⟩ := hrel
    obtain ⟨⟨c0, c1, c2, c3, c4, c5⟩, f0, f1, f2, f3, f4, f5⟩ := six hPq.blk
    have HQ := Lib.hid hPq; have HZ := Lib.hid hZ; have HB9 := Lib.hid hB9; have HE := Lib.hid hE; have HGo := Lib.hid hgo; have HQD := Lib.hid hqd
    clear hPq hZ hB9 hE hgo hqd c0 c1 c3 c4 c5 f0 f1 f2 f3 f4 f5
    go_wp2_with fail
    refine (may_any b s q t _ hs HQ.out ht).mono ?_
    rintro e w2 ⟨rfl, hgr2, hP2⟩
    have hsz2 := hgr2.size
    have hZ2 := HZ.out.grown hgr2 (by simp; omega)
    have hB92 := HB9.out.grown hgr2 (by simp; omega)
    have hE2 := HE.out.grown hgr2 (by intro g hg; simp at hg; omega)
    obtain ⟨⟨z0, z1, z2, z3⟩, zf0, zf1, zf2, zf3⟩ := hZ2.four
    obtain ⟨⟨b0, b1, b2, b3⟩, bf0, bf1, bf2, bf3⟩ := hB92.four
    have hG2 := grown_trans hG hgr2
    have hq2 := may_calm q t
    have HQ2 := Lib.hid hP2; have HZ2 := Lib.hid hZ2; have HB92 := Lib.hid hB92; have HE2 := Lib.hid hE2; have HM := Lib.hid hq2
    clear hP2 hZ2 hB92 hE2 hq2 c2
    cases hm : (q.may t).1
    · have Hm := Lib.hid hm; clear hm
      clear bf0 bf1 bf2 bf3
      go_wp2_with fail
      have hfin : chain t kind R p = (T, (q.may t).2) := by
        rw [← HGo.out]
        cases gk with
        | zero => simp only [chainGo]; rw [may_no Hm.out]
        | succ n => simp only [chainGo, Hm.out]; rfl
      rw [hfin]
      exact ret_expr rfl w.heap.size _ _ _ _ rfl rfl (HZ2.out.put4 _ _ _ _) ⟨_, rfl, ExprV.mono (by intro g _ h; omega) _ _ (HE2.out.put4 (by omega) _ _ _ _), grown_fresh4 hG2 (by omega) _ _ _ _, HQ2.out.put4 (by omega) _ _ _ _⟩
    · have Hm := Lib.hid hm; clear hm
      clear zf0 zf1 zf2 zf3 z0 z1 z2 z3 bf0 bf1 bf2 bf3
      go_wp2_with fail
      go_region_with (first
        | (go_at_call 87; refine (HR.out _ b (q.may t).2 (HQ2.out.drew) (HM.out.1.trans HQD.out)).mono ?_; rintro e w3 ⟨x3, rfl, hE3, hgr3, hP3⟩;
           obtain ⟨rk, ra, rv, rA, rn, rc, rfl⟩ := hE3.four;
           have hgr3 := grown_of_drew hgr3;
           have hB93 := HB92.out.grown hgr3 (by simp; omega);
           have hlt9 := hB93.lt;
           obtain ⟨⟨d0, d1, d2, d3⟩, df0, df1, df2, df3⟩ := hB93.four;
           have HE3 := Lib.hid hE3; have HP3 := Lib.hid hP3; have HB93 := Lib.hid hB93; clear hE3 hP3 hB93))
      all_goals
        go_wp2_with fail
        have hpos := HQ.out.pos
        obtain ⟨n, rfl⟩ : ∃ n, gk = n + 1 := ⟨gk - 1, by omega⟩
        go_roundg n
        case measure => omega
        case rel =>
          have hRq := HC.out (q.may t).2 (HM.out.1.trans HQD.out)
          have hsz3 := hgr3.size
          refine ⟨.node kind q.at_ 0 [T, (R (q.may t).2).1], (R (q.may t).2).2, kind, (q.at_ : Int), 0, some ⟨w3.heap.size, 0, none⟩, 2, 2, ?_, ?_, hRq.1, (HP3.out.put4 (by omega) _ _ _ _).keep (below1 _ _), grown_alloc (grown_fresh4 (grown_trans hG2 hgr3) (by omega) _ _ _ _) _, by simp; omega, ((HZ2.out.grown hgr3 (by simp; omega)).other4 (by omega) _ _ _ _).alloc _, (HB93.out.put4 _ _ _ _).alloc _, ?_⟩
          · rw [← HGo.out]; simp only [chainGo, Hm.out]; rfl
          · have h5 := (may_yes Hm.out).1
            have h6 := goes_len1 q
            have h7 : (q.may t).2.toks.length = q.goes.toks.length := by rw [h5]
            have h8 := hRq.2
            omega
          · refine ExprV.two (T := 36) ((ExprV.put4 ((HE2.out.grown hgr3 (by intro g hg; simp at hg; omega))) (by simp) _ _ _ _).alloc _) (ExprV.alloc (ExprV.mono (ok := fun g => w2.heap.size ≤ g) (by intro g h1 h2; exact ⟨by omega, by omega⟩) _ _ (ExprV.put4 HE3.out (by simp; omega) _ _ _ _)) _) ⟨by omega, by omega⟩ ?_ _ _ _ _
            have := Blk.new ((((w3.setCell ⟨w1.heap.size, 0, none⟩ (.int .i64 kind)).setCell ⟨w1.heap.size, 1, none⟩ (.int .i64 (q.at_ : Int))).setCell ⟨w1.heap.size, 2, none⟩ (.int .i64 0)).setCell ⟨w1.heap.size, 3, none⟩ (.slice (some ⟨w3.heap.size, 0, none⟩) 2 2)) 36
              #[.int .i64 yk, .int .i64 ya, .int .i64 yv, .slice yA yn yc, .int .i64 rk, .int .i64 ra, .int .i64 rv, .slice rA rn rc]
            simpa using this

set_option maxRecDepth 100000 in
set_option maxHeartbeats 4000000 in
theorem chain_imp (R : Rd) (s t : Bs) (kind : Int) (hs : s.length ≤ 4000) (ht : good t) (d : Nat) (hR : Does 44 R s d) (hC : Calm R d)
    (w : World) (b : Nat) (p : PS) (hP : PM w b s p) (hpd : p.depth = d) :
    Calls Try.prog 43 #[.pointer (some ⟨b, 0, none⟩), .string (str t), .int .i64 kind, .func (.func 44) #[] #[]] w fun e' w' =>
      ∃ x, e' = .returned x ∧ ExprV (fun g => w.heap.size ≤ g) w' (chain t kind R p).1 x ∧ w.grownBy w' (some b) ∧ PM w' b s (chain t kind R p).2 := by
  have hlt := hP.blk.lt
  have HP := Lib.hid hP
  have HR := Lib.hid hR
  have HC := Lib.hid hC
  have HD := Lib.hid hpd
  clear hP hR hC hpd
  go_enter Try.func43, Try.ntmps43
  go_wp2_with fail
  refine (HR.out _ b p (HP.out.keep (below1 _ _)) HD.out).mono ?_
  rintro e w1 ⟨x, rfl, hE, hgr, hP1⟩
  obtain ⟨xk, xa, xv, xA, xn, xc, rfl⟩ := hE.four
  have hsz1 := hgr.size
  simp only [World.size_alloc] at hsz1
  have hZ := (Blk.new w 36 zeroExpr).grown hgr (by simp; omega)
  have hE1 : ExprV (fun g => w.heap.size < g ∧ g < w1.heap.size) w1 (R p).1 (.agg #[.int .i64 xk, .int .i64 xa, .int .i64 xv, .slice xA xn xc]) := ExprV.mono (by intro g h1 h2; simp at h2; exact ⟨by omega, h1⟩) _ _ hE
  have hG1 : w.grownBy w1 (some b) := grown_trans (grown_alloc (World.grownBy.refl _ _) _) hgr
  have hd1 := (HC.out p HD.out).1
  have HE1 := Lib.hid hE1; have HP1 := Lib.hid hP1; have HZ := Lib.hid hZ; have HD1 := Lib.hid hd1
  clear hE hE1 hP1 hZ hd1 hgr
  go_wp2_with fail
  obtain ⟨g9, hg9⟩ : ∃ g9, g9 = w1.heap.size := ⟨_, rfl⟩
  have hfin : chain t kind R p = chainGo t kind R (R p).2.toks.length (R p).1 (R p).2 := rfl
  have HF := Lib.hid hfin; clear hfin
  go_loopg [10] (R p).2.toks.length (fun n v wr => ∃ (T : Tree) (q : PS) (xk xa xv : Int) (xA : Option Addr) (xn xc : Nat), chainGo t kind R n T q = chain t kind R p ∧ q.toks.length ≤ n ∧ q.depth = d ∧ PM wr b s q ∧ w.grownBy wr (some b) ∧ w1.heap.size < wr.heap.size ∧
      Blk wr w.heap.size 36 zeroExpr ∧ Blk wr w1.heap.size 36 #[.int .i64 xk, .int .i64 xa, .int .i64 xv, .slice xA xn xc] ∧ ExprV (fun g => w.heap.size < g ∧ g ≠ w1.heap.size) wr T (.agg #[.int .i64 xk, .int .i64 xa, .int .i64 xv, .slice xA xn xc]))
  case atStart =>
    refine ⟨(R p).1, (R p).2, xk, xa, xv, xA, xn, xc, HF.out.symm, Nat.le_refl _, HD1.out, HP1.out.keep (below1 _ _), grown_alloc hG1 _, by simp, HZ.out.alloc _, Blk.new _ _ _, ExprV.mono (by intro g _ h; exact ⟨h.1, by omega⟩) _ _ (HE1.out.alloc _)⟩
  case round =>
    clear HE1 HP1 HZ
    obtain ⟨T, q, yk, ya, yv, yA, yn, yc, hgo, hlen, hqd, hPq, hG, hsz, hZ, hB9, hE⟩ := hrel
    obtain ⟨⟨c0, c1, c2, c3, c4, c5⟩, f0, f1, f2, f3, f4, f5⟩ := six hPq.blk
    have HQ := Lib.hid hPq; have HZ := Lib.hid hZ; have HB9 := Lib.hid hB9; have HE := Lib.hid hE; have HGo := Lib.hid hgo; have HQD := Lib.hid hqd
    clear hPq hZ hB9 hE hgo hqd c0 c1 c3 c4 c5 f0 f1 f2 f3 f4 f5
    go_wp2_with fail
    refine (may_any b s q t _ hs HQ.out ht).mono ?_
    rintro e w2 ⟨rfl, hgr2, hP2⟩
    have hsz2 := hgr2.size
    have hZ2 := HZ.out.grown hgr2 (by simp; omega)
    have hB92 := HB9.out.grown hgr2 (by simp; omega)
    have hE2 := HE.out.grown hgr2 (by intro g hg; simp at hg; omega)
    obtain ⟨⟨z0, z1, z2, z3⟩, zf0, zf1, zf2, zf3⟩ := hZ2.four
    obtain ⟨⟨b0, b1, b2, b3⟩, bf0, bf1, bf2, bf3⟩ := hB92.four
    have hG2 := grown_trans hG hgr2
    have hq2 := may_calm q t
    have HQ2 := Lib.hid hP2; have HZ2 := Lib.hid hZ2; have HB92 := Lib.hid hB92; have HE2 := Lib.hid hE2; have HM := Lib.hid hq2
    clear hP2 hZ2 hB92 hE2 hq2 c2
    cases hm : (q.may t).1
    · have Hm := Lib.hid hm; clear hm
      clear bf0 bf1 bf2 bf3
      go_wp2_with fail
      have hfin : chain t kind R p = (T, (q.may t).2) := by
        rw [← HGo.out]
        cases gk with
        | zero => simp only [chainGo]; rw [may_no Hm.out]
        | succ n => simp only [chainGo, Hm.out]; rfl
      rw [hfin]
      exact ret_expr rfl w.heap.size _ _ _ _ rfl rfl (HZ2.out.put4 _ _ _ _) ⟨_, rfl, ExprV.mono (by intro g _ h; omega) _ _ (HE2.out.put4 (by omega) _ _ _ _), grown_fresh4 hG2 (by omega) _ _ _ _, HQ2.out.put4 (by omega) _ _ _ _⟩
    · have Hm := Lib.hid hm; clear hm
      clear zf0 zf1 zf2 zf3 z0 z1 z2 z3 bf0 bf1 bf2 bf3
      go_wp2_with fail
      go_region_with (first
        | (go_at_call 44; refine (HR.out _ b (q.may t).2 (HQ2.out.drew) (HM.out.1.trans HQD.out)).mono ?_; rintro e w3 ⟨x3, rfl, hE3, hgr3, hP3⟩;
           obtain ⟨rk, ra, rv, rA, rn, rc, rfl⟩ := hE3.four;
           have hgr3 := grown_of_drew hgr3;
           have hB93 := HB92.out.grown hgr3 (by simp; omega);
           have hlt9 := hB93.lt;
           obtain ⟨⟨d0, d1, d2, d3⟩, df0, df1, df2, df3⟩ := hB93.four;
           have HE3 := Lib.hid hE3; have HP3 := Lib.hid hP3; have HB93 := Lib.hid hB93; clear hE3 hP3 hB93))
      all_goals
        go_wp2_with fail
        have hpos := HQ.out.pos
        obtain ⟨n, rfl⟩ : ∃ n, gk = n + 1 := ⟨gk - 1, by omega⟩
        go_roundg n
        case measure => omega
        case rel =>
          have hRq := HC.out (q.may t).2 (HM.out.1.trans HQD.out)
          have hsz3 := hgr3.size
          refine ⟨.node kind q.at_ 0 [T, (R (q.may t).2).1], (R (q.may t).2).2, kind, (q.at_ : Int), 0, some ⟨w3.heap.size, 0, none⟩, 2, 2, ?_, ?_, hRq.1, (HP3.out.put4 (by omega) _ _ _ _).keep (below1 _ _), grown_alloc (grown_fresh4 (grown_trans hG2 hgr3) (by omega) _ _ _ _) _, by simp; omega, ((HZ2.out.grown hgr3 (by simp; omega)).other4 (by omega) _ _ _ _).alloc _, (HB93.out.put4 _ _ _ _).alloc _, ?_⟩
          · rw [← HGo.out]; simp only [chainGo, Hm.out]; rfl
          · have h5 := (may_yes Hm.out).1
            have h6 := goes_len1 q
            have h7 : (q.may t).2.toks.length = q.goes.toks.length := by rw [h5]
            have h8 := hRq.2
            omega
          · refine ExprV.two (T := 36) ((ExprV.put4 ((HE2.out.grown hgr3 (by intro g hg; simp at hg; omega))) (by simp) _ _ _ _).alloc _) (ExprV.alloc (ExprV.mono (ok := fun g => w2.heap.size ≤ g) (by intro g h1 h2; exact ⟨by omega, by omega⟩) _ _ (ExprV.put4 HE3.out (by simp; omega) _ _ _ _)) _) ⟨by omega, by omega⟩ ?_ _ _ _ _
            have := Blk.new ((((w3.setCell ⟨w1.heap.size, 0, none⟩ (.int .i64 kind)).setCell ⟨w1.heap.size, 1, none⟩ (.int .i64 (q.at_ : Int))).setCell ⟨w1.heap.size, 2, none⟩ (.int .i64 0)).setCell ⟨w1.heap.size, 3, none⟩ (.slice (some ⟨w3.heap.size, 0, none⟩) 2 2)) 36
              #[.int .i64 yk, .int .i64 ya, .int .i64 yv, .slice yA yn yc, .int .i64 rk, .int .i64 ra, .int .i64 rv, .slice rA rn rc]
            simpa using this

set_option maxRecDepth 100000 in
set_option maxHeartbeats 4000000 in
theorem chain_xor (R : Rd) (s t : Bs) (kind : Int) (hs : s.length ≤ 4000) (ht : good t) (d : Nat) (hR : Does 77 R s d) (hC : Calm R d)
    (w : World) (b : Nat) (p : PS) (hP : PM w b s p) (hpd : p.depth = d) :
    Calls Try.prog 43 #[.pointer (some ⟨b, 0, none⟩), .string (str t), .int .i64 kind, .func (.func 77) #[] #[]] w fun e' w' =>
      ∃ x, e' = .returned x ∧ ExprV (fun g => w.heap.size ≤ g) w' (chain t kind R p).1 x ∧ w.grownBy w' (some b) ∧ PM w' b s (chain t kind R p).2 := by
  have hlt := hP.blk.lt
  have HP := Lib.hid hP
  have HR := Lib.hid hR
  have HC := Lib.hid hC
  have HD := Lib.hid hpd
  clear hP hR hC hpd
  go_enter Try.func43, Try.ntmps43
  go_wp2_with fail
  refine (HR.out _ b p (HP.out.keep (below1 _ _)) HD.out).mono ?_
  rintro e w1 ⟨x, rfl, hE, hgr, hP1⟩
  obtain ⟨xk, xa, xv, xA, xn, xc, rfl⟩ := hE.four
  have hsz1 := hgr.size
  simp only [World.size_alloc] at hsz1
  have hZ := (Blk.new w 36 zeroExpr).grown hgr (by simp; omega)
  have hE1 : ExprV (fun g => w.heap.size < g ∧ g < w1.heap.size) w1 (R p).1 (.agg #[.int .i64 xk, .int .i64 xa, .int .i64 xv, .slice xA xn xc]) := ExprV.mono (by intro g h1 h2; simp at h2; exact ⟨by omega, h1⟩) _ _ hE
  have hG1 : w.grownBy w1 (some b) := grown_trans (grown_alloc (World.grownBy.refl _ _) _) hgr
  have hd1 := (HC.out p HD.out).1
  have HE1 := Lib.hid hE1; have HP1 := Lib.hid hP1; have HZ := Lib.hid hZ; have HD1 := Lib.hid hd1
  clear hE hE1 hP1 hZ hd1 hgr
  go_wp2_with fail
  obtain ⟨g9, hg9⟩ : ∃ g9, g9 = w1.heap.size := ⟨_, rfl⟩
  have hfin : chain t kind R p = chainGo t kind R (R p).2.toks.length (R p).1 (R p).2 := rfl
  have HF := Lib.hid hfin; clear hfin
  go_loopg [10] (R p).2.toks.length (fun n v wr => ∃ (T : Tree) (q : PS) (xk xa xv : Int) (xA : Option Addr) (xn xc : Nat), chainGo t kind R n T q = chain t kind R p ∧ q.toks.length ≤ n ∧ q.depth = d ∧ PM wr b s q ∧ w.grownBy wr (some b) ∧ w1.heap.size < wr.heap.size ∧
      Blk wr w.heap.size 36 zeroExpr ∧ Blk wr w1.heap.size 36 #[.int .i64 xk, .int .i64 xa, .int .i64 xv, .slice xA xn xc] ∧ ExprV (fun g => w.heap.size < g ∧ g ≠ w1.heap.size) wr T (.agg #[.int .i64 xk, .int .i64 xa, .int .i64 xv, .slice xA xn xc]))
  case atStart =>
    refine ⟨(R p).1, (R p).2, xk, xa, xv, xA, xn, xc, HF.out.symm, Nat.le_refl _, HD1.out, HP1.out.keep (below1 _ _), grown_alloc hG1 _, by simp, HZ.out.alloc _, Blk.new _ _ _, ExprV.mono (by intro g _ h; exact ⟨h.1, by omega⟩) _ _ (HE1.out.alloc _)⟩
  case round =>
    clear HE1 HP1 HZ
    obtain ⟨T, q, yk, ya, yv, yA, yn, yc, hgo, hlen, hqd, hPq, hG, hsz, hZ, hB9, hE⟩ := hrel
    obtain ⟨⟨c0, c1, c2, c3, c4, c5⟩, f0, f1, f2, f3, f4, f5⟩ := six hPq.blk
    have HQ := Lib.hid hPq; have HZ := Lib.hid hZ; have HB9 := Lib.hid hB9; have HE := Lib.hid hE; have HGo := Lib.hid hgo; have HQD := Lib.hid hqd
    clear hPq hZ hB9 hE hgo hqd c0 c1 c3 c4 c5 f0 f1 f2 f3 f4 f5
    go_wp2_with fail
    refine (may_any b s q t _ hs HQ.out ht).mono ?_
    rintro e w2 ⟨rfl, hgr2, hP2⟩
    have hsz2 := hgr2.size
    have hZ2 := HZ.out.grown hgr2 (by simp; omega)
    have hB92 := HB9.out.grown hgr2 (by simp; omega)
    have hE2 := HE.out.grown hgr2 (by intro g hg; simp at hg; omega)
    obtain ⟨⟨z0, z1, z2, z3⟩, zf0, zf1, zf2, zf3⟩ := hZ2.four
    obtain ⟨⟨b0, b1, b2, b3⟩, bf0, bf1, bf2, bf3⟩ := hB92.four
    have hG2 := grown_trans hG hgr2
    have hq2 := may_calm q t
    have HQ2 := Lib.hid hP2; have HZ2 := Lib.hid hZ2; have HB92 := Lib.hid hB92; have HE2 := Lib.hid hE2; have HM := Lib.hid hq2
    clear hP2 hZ2 hB92 hE2 hq2 c2
    cases hm : (q.may t).1
    · have Hm := Lib.hid hm; clear hm
      clear bf0 bf1 bf2 bf3
      go_wp2_with fail
      have hfin : chain t kind R p = (T, (q.may t).2) := by
        rw [← HGo.out]
        cases gk with
        | zero => simp only [chainGo]; rw [may_no Hm.out]
        | succ n => simp only [chainGo, Hm.out]; rfl
      rw [hfin]
      exact ret_expr rfl w.heap.size _ _ _ _ rfl rfl (HZ2.out.put4 _ _ _ _) ⟨_, rfl, ExprV.mono (by intro g _ h; omega) _ _ (HE2.out.put4 (by omega) _ _ _ _), grown_fresh4 hG2 (by omega) _ _ _ _, HQ2.out.put4 (by omega) _ _ _ _⟩
    · have Hm := Lib.hid hm; clear hm
      clear zf0 zf1 zf2 zf3 z0 z1 z2 z3 bf0 bf1 bf2 bf3
      go_wp2_with fail
      go_region_with (first
        | (go_at_call 77; refine (HR.out _ b (q.may t).2 (HQ2.out.drew) (HM.out.1.trans HQD.out)).mono ?_; rintro e w3 ⟨x3, rfl, hE3, hgr3, hP3⟩;
           obtain ⟨rk, ra, rv, rA, rn, rc, rfl⟩ := hE3.four;
           have hgr3 := grown_of_drew hgr3;
           have hB93 := HB92.out.grown hgr3 (by simp; omega);
           have hlt9 := hB93.lt;
           obtain ⟨⟨d0, d1, d2, d3⟩, df0, df1, df2, df3⟩ := hB93.four;
           have HE3 := Lib.hid hE3; have HP3 := Lib.hid hP3; have HB93 := Lib.hid hB93; clear hE3 hP3 hB93))
      all_goals
        go_wp2_with fail
        have hpos := HQ.out.pos
        obtain ⟨n, rfl⟩ : ∃ n, gk = n + 1 := ⟨gk - 1, by omega⟩
        go_roundg n
        case measure => omega
        case rel =>
          have hRq := HC.out (q.may t).2 (HM.out.1.trans HQD.out)
          have hsz3 := hgr3.size
          refine ⟨.node kind q.at_ 0 [T, (R (q.may t).2).1], (R (q.may t).2).2, kind, (q.at_ : Int), 0, some ⟨w3.heap.size, 0, none⟩, 2, 2, ?_, ?_, hRq.1, (HP3.out.put4 (by omega) _ _ _ _).keep (below1 _ _), grown_alloc (grown_fresh4 (grown_trans hG2 hgr3) (by omega) _ _ _ _) _, by simp; omega, ((HZ2.out.grown hgr3 (by simp; omega)).other4 (by omega) _ _ _ _).alloc _, (HB93.out.put4 _ _ _ _).alloc _, ?_⟩
          · rw [← HGo.out]; simp only [chainGo, Hm.out]; rfl
          · have h5 := (may_yes Hm.out).1
            have h6 := goes_len1 q
            have h7 : (q.may t).2.toks.length = q.goes.toks.length := by rw [h5]
            have h8 := hRq.2
            omega
          · refine ExprV.two (T := 36) ((ExprV.put4 ((HE2.out.grown hgr3 (by intro g hg; simp at hg; omega))) (by simp) _ _ _ _).alloc _) (ExprV.alloc (ExprV.mono (ok := fun g => w2.heap.size ≤ g) (by intro g h1 h2; exact ⟨by omega, by omega⟩) _ _ (ExprV.put4 HE3.out (by simp; omega) _ _ _ _)) _) ⟨by omega, by omega⟩ ?_ _ _ _ _
            have := Blk.new ((((w3.setCell ⟨w1.heap.size, 0, none⟩ (.int .i64 kind)).setCell ⟨w1.heap.size, 1, none⟩ (.int .i64 (q.at_ : Int))).setCell ⟨w1.heap.size, 2, none⟩ (.int .i64 0)).setCell ⟨w1.heap.size, 3, none⟩ (.slice (some ⟨w3.heap.size, 0, none⟩) 2 2)) 36
              #[.int .i64 yk, .int .i64 ya, .int .i64 yv, .slice yA yn yc, .int .i64 rk, .int .i64 ra, .int .i64 rv, .slice rA rn rc]
            simpa using this

set_option maxRecDepth 100000 in
set_option maxHeartbeats 4000000 in
theorem chain_and (R : Rd) (s t : Bs) (kind : Int) (hs : s.length ≤ 4000) (ht : good t) (d : Nat) (hR : Does 83 R s d) (hC : Calm R d)
    (w : World) (b : Nat) (p : PS) (hP : PM w b s p) (hpd : p.depth = d) :
    Calls Try.prog 43 #[.pointer (some ⟨b, 0, none⟩), .string (str t), .int .i64 kind, .func (.func 83) #[] #[]] w fun e' w' =>
      ∃ x, e' = .returned x ∧ ExprV (fun g => w.heap.size ≤ g) w' (chain t kind R p).1 x ∧ w.grownBy w' (some b) ∧ PM w' b s (chain t kind R p).2 := by
  have hlt := hP.blk.lt
  have HP := Lib.hid hP
  have HR := Lib.hid hR
  have HC := Lib.hid hC
  have HD := Lib.hid hpd
  clear hP hR hC hpd
  go_enter Try.func43, Try.ntmps43
  go_wp2_with fail
  refine (HR.out _ b p (HP.out.keep (below1 _ _)) HD.out).mono ?_
  rintro e w1 ⟨x, rfl, hE, hgr, hP1⟩
  obtain ⟨xk, xa, xv, xA, xn, xc, rfl⟩ := hE.four
  have hsz1 := hgr.size
  simp only [World.size_alloc] at hsz1
  have hZ := (Blk.new w 36 zeroExpr).grown hgr (by simp; omega)
  have hE1 : ExprV (fun g => w.heap.size < g ∧ g < w1.heap.size) w1 (R p).1 (.agg #[.int .i64 xk, .int .i64 xa, .int .i64 xv, .slice xA xn xc]) := ExprV.mono (by intro g h1 h2; simp at h2; exact ⟨by omega, h1⟩) _ _ hE
  have hG1 : w.grownBy w1 (some b) := grown_trans (grown_alloc (World.grownBy.refl _ _) _) hgr
  have hd1 := (HC.out p HD.out).1
  have HE1 := Lib.hid hE1; have HP1 := Lib.hid hP1; have HZ := Lib.hid hZ; have HD1 := Lib.hid hd1
  clear hE hE1 hP1 hZ hd1 hgr
  go_wp2_with fail
  obtain ⟨g9, hg9⟩ : ∃ g9, g9 = w1.heap.size := ⟨_, rfl⟩
  have hfin : chain t kind R p = chainGo t kind R (R p).2.toks.length (R p).1 (R p).2 := rfl
  have HF := Lib.hid hfin; clear hfin
  go_loopg [10] (R p).2.toks.length (fun n v wr => ∃ (T : Tree) (q : PS) (xk xa xv : Int) (xA : Option Addr) (xn xc : Nat), chainGo t kind R n T q = chain t kind R p ∧ q.toks.length ≤ n ∧ q.depth = d ∧ PM wr b s q ∧ w.grownBy wr (some b) ∧ w1.heap.size < wr.heap.size ∧
      Blk wr w.heap.size 36 zeroExpr ∧ Blk wr w1.heap.size 36 #[.int .i64 xk, .int .i64 xa, .int .i64 xv, .slice xA xn xc] ∧ ExprV (fun g => w.heap.size < g ∧ g ≠ w1.heap.size) wr T (.agg #[.int .i64 xk, .int .i64 xa, .int .i64 xv, .slice xA xn xc]))
  case atStart =>
    refine ⟨(R p).1, (R p).2, xk, xa, xv, xA, xn, xc, HF.out.symm, Nat.le_refl _, HD1.out, HP1.out.keep (below1 _ _), grown_alloc hG1 _, by simp, HZ.out.alloc _, Blk.new _ _ _, ExprV.mono (by intro g _ h; exact ⟨h.1, by omega⟩) _ _ (HE1.out.alloc _)⟩
  case round =>
    clear HE1 HP1 HZ
    obtain ⟨T, q, yk, ya, yv, yA, yn, yc, hgo, hlen, hqd, hPq, hG, hsz, hZ, hB9, hE⟩ := hrel
    obtain ⟨⟨c0, c1, c2, c3, c4, c5⟩, f0, f1, f2, f3, f4, f5⟩ := six hPq.blk
    have HQ := Lib.hid hPq; have HZ := Lib.hid hZ; have HB9 := Lib.hid hB9; have HE := Lib.hid hE; have HGo := Lib.hid hgo; have HQD := Lib.hid hqd
    clear hPq hZ hB9 hE hgo hqd c0 c1 c3 c4 c5 f0 f1 f2 f3 f4 f5
    go_wp2_with fail
    refine (may_any b s q t _ hs HQ.out ht).mono ?_
    rintro e w2 ⟨rfl, hgr2, hP2⟩
    have hsz2 := hgr2.size
    have hZ2 := HZ.out.grown hgr2 (by simp; omega)
    have hB92 := HB9.out.grown hgr2 (by simp; omega)
    have hE2 := HE.out.grown hgr2 (by intro g hg; simp at hg; omega)
    obtain ⟨⟨z0, z1, z2, z3⟩, zf0, zf1, zf2, zf3⟩ := hZ2.four
    obtain ⟨⟨b0, b1, b2, b3⟩, bf0, bf1, bf2, bf3⟩ := hB92.four
    have hG2 := grown_trans hG hgr2
    have hq2 := may_calm q t
    have HQ2 := Lib.hid hP2; have HZ2 := Lib.hid hZ2; have HB92 := Lib.hid hB92; have HE2 := Lib.hid hE2; have HM := Lib.hid hq2
    clear hP2 hZ2 hB92 hE2 hq2 c2
    cases hm : (q.may t).1
    · have Hm := Lib.hid hm; clear hm
      clear bf0 bf1 bf2 bf3
      go_wp2_with fail
      have hfin : chain t kind R p = (T, (q.may t).2) := by
        rw [← HGo.out]
        cases gk with
        | zero => simp only [chainGo]; rw [may_no Hm.out]
        | succ n => simp only [chainGo, Hm.out]; rfl
      rw [hfin]
      exact ret_expr rfl w.heap.size _ _ _ _ rfl rfl (HZ2.out.put4 _ _ _ _) ⟨_, rfl, ExprV.mono (by intro g _ h; omega) _ _ (HE2.out.put4 (by omega) _ _ _ _), grown_fresh4 hG2 (by omega) _ _ _ _, HQ2.out.put4 (by omega) _ _ _ _⟩
    · have Hm := Lib.hid hm; clear hm
      clear zf0 zf1 zf2 zf3 z0 z1 z2 z3 bf0 bf1 bf2 bf3
      go_wp2_with fail
      go_region_with (first
        | (go_at_call 83; refine (HR.out _ b (q.may t).2 (HQ2.out.drew) (HM.out.1.trans HQD.out)).mono ?_; rintro e w3 ⟨x3, rfl, hE3, hgr3, hP3⟩;
           obtain ⟨rk, ra, rv, rA, rn, rc, rfl⟩ := hE3.four;
           have hgr3 := grown_of_drew hgr3;
           have hB93 := HB92.out.grown hgr3 (by simp; omega);
           have hlt9 := hB93.lt;
           obtain ⟨⟨d0, d1, d2, d3⟩, df0, df1, df2, df3⟩ := hB93.four;
           have HE3 := Lib.hid hE3; have HP3 := Lib.hid hP3; have HB93 := Lib.hid hB93; clear hE3 hP3 hB93))
      all_goals
        go_wp2_with fail
        have hpos := HQ.out.pos
        obtain ⟨n, rfl⟩ : ∃ n, gk = n + 1 := ⟨gk - 1, by omega⟩
        go_roundg n
        case measure => omega
        case rel =>
          have hRq := HC.out (q.may t).2 (HM.out.1.trans HQD.out)
          have hsz3 := hgr3.size
          refine ⟨.node kind q.at_ 0 [T, (R (q.may t).2).1], (R (q.may t).2).2, kind, (q.at_ : Int), 0, some ⟨w3.heap.size, 0, none⟩, 2, 2, ?_, ?_, hRq.1, (HP3.out.put4 (by omega) _ _ _ _).keep (below1 _ _), grown_alloc (grown_fresh4 (grown_trans hG2 hgr3) (by omega) _ _ _ _) _, by simp; omega, ((HZ2.out.grown hgr3 (by simp; omega)).other4 (by omega) _ _ _ _).alloc _, (HB93.out.put4 _ _ _ _).alloc _, ?_⟩
          · rw [← HGo.out]; simp only [chainGo, Hm.out]; rfl
          · have h5 := (may_yes Hm.out).1
            have h6 := goes_len1 q
            have h7 : (q.may t).2.toks.length = q.goes.toks.length := by rw [h5]
            have h8 := hRq.2
            omega
          · refine ExprV.two (T := 36) ((ExprV.put4 ((HE2.out.grown hgr3 (by intro g hg; simp at hg; omega))) (by simp) _ _ _ _).alloc _) (ExprV.alloc (ExprV.mono (ok := fun g => w2.heap.size ≤ g) (by intro g h1 h2; exact ⟨by omega, by omega⟩) _ _ (ExprV.put4 HE3.out (by simp; omega) _ _ _ _)) _) ⟨by omega, by omega⟩ ?_ _ _ _ _
            have := Blk.new ((((w3.setCell ⟨w1.heap.size, 0, none⟩ (.int .i64 kind)).setCell ⟨w1.heap.size, 1, none⟩ (.int .i64 (q.at_ : Int))).setCell ⟨w1.heap.size, 2, none⟩ (.int .i64 0)).setCell ⟨w1.heap.size, 3, none⟩ (.slice (some ⟨w3.heap.size, 0, none⟩) 2 2)) 36
              #[.int .i64 yk, .int .i64 ya, .int .i64 yv, .slice yA yn yc, .int .i64 rk, .int .i64 ra, .int .i64 rv, .slice rA rn rc]
            simpa using this
end Go.Proofs.Ytmjpecjciibngaa
