/- The reader in memory: what stands behind all, any. -/
import Derived.Test.YtmjpecjciibngaaRd5
namespace Go.Proofs.Ytmjpecjciibngaa
open Go.RowKit
set_option linter.unusedVariables false

theorem isVar_form {v : Bs} (h : isVar v = true) : ∃ c : UInt8, v = [118, c] ∧ 48 ≤ c.toNat ∧ c.toNat ≤ 55 := by
  unfold isVar at h
  split at h
  · rename_i a b
    simp only [Bool.and_eq_true, beq_iff_eq, decide_eq_true_eq] at h
    exact ⟨b, by rw [h.1], h.2.1, h.2.2⟩
  · cases h
theorem isVar_good {v : Bs} (h : isVar v = true) : good v := by
  obtain ⟨c, rfl, _, _⟩ := isVar_form h
  exact ⟨by simp, by simp⟩
theorem str_size2 (a c : UInt8) : (str [a, c]).size = 2 := rfl
theorem str_idx1 (a c : UInt8) (h : 1 < (str [a, c]).size) : (str [a, c])[1]'h = c := rfl
theorem digit_wrap (c : UInt8) (h : 48 ≤ c.toNat) (h2 : c.toNat ≤ 57) : IntKind.u8.wrap ((c.toNat : Int) - 48) = ((c.toNat - 48 : Nat) : Int) := by
  have : IntKind.u8.wrap ((c.toNat : Int) - 48) = ((c.toNat : Int) - 48) % 256 := by simp [IntKind.wrap, IntKind.bits, IntKind.signed]
  rw [this]; omega

set_option maxRecDepth 100000 in
set_option maxHeartbeats 4000000 in
theorem bound_any (un : Rd) (kind at_ : Int) (s : Bs) (hs : s.length ≤ 4000) (d : Nat) (hd : d ≤ 30)
    (hun : d < 30 → Does 87 un s (d + 1)) (hcu : Calm un (d + 1)) (w : World) (b : Nat) (p : PS) (hP : PM w b s p) (hpd : p.depth = d) :
    Calls Try.prog 88 #[.pointer (some ⟨b, 0, none⟩), .int .i64 kind, .int .i64 at_] w fun e' w' =>
      ∃ x, e' = .returned x ∧ ExprV (fun g => w.heap.size ≤ g) w' (boundP un kind at_ p).1 x ∧ w.grownBy w' (some b) ∧ PM w' b s (boundP un kind at_ p).2 := by
  have hlt := hP.blk.lt
  obtain ⟨⟨c0, c1, c2, c3, c4, c5⟩, f0, f1, f2, f3, f4, f5⟩ := six hP.blk
  have HP := Lib.hid hP; have HD := Lib.hid hpd; have HU := Lib.hid hun; have HC := Lib.hid hcu
  clear hP hpd hun hcu c0 c2 c3 c4 c5 f0 f1 f2 f3 f4 f5
  cases hv : isVar p.hd.1
  · have hb : boundP un kind at_ p = (.zero, p.bad 230) := by unfold boundP; simp [hv]
    rw [hb]
    have HV := Lib.hid hv; clear hv hb
    go_enter Try.func88, Try.ntmps88
    go_wp2_with fail
    refine (variable_any (str p.hd.1) _).mono ?_
    rintro e w1 ⟨rfl, rfl⟩
    rw [data_str, HV.out]
    go_wp2_with fail
    refine (bad_any b s p 230 _ (HP.out.keep (below1 _ _))).mono ?_
    rintro e w1 ⟨rfl, hgr, hP1⟩
    have hZ := (Blk.new w 36 zeroExpr).grown hgr (by simp; omega)
    obtain ⟨⟨z0, z1, z2, z3⟩, zf0, zf1, zf2, zf3⟩ := hZ.four
    have hG1 : w.grownBy w1 (some b) := grown_trans (grown_alloc (World.grownBy.refl _ _) _) hgr
    have HP1 := Lib.hid hP1; have HZ := Lib.hid hZ
    clear hP1 hZ hgr
    go_wp2_with fail
    exact ret_expr rfl w.heap.size _ _ _ _ rfl rfl (HZ.out.put4 _ _ _ _) ⟨_, rfl, ExprV.zero _ _, grown_fresh4 hG1 (by omega) _ _ _ _, HP1.out.put4 (by omega) _ _ _ _⟩
  · have hg := isVar_good hv
    have hb : boundP un kind at_ p = (.node kind at_ (digitOf p.hd.1 1) [(within un p.goes).1], (within un p.goes).2) := by unfold boundP; simp [hv]
    rw [hb]
    obtain ⟨c, hvc, hc1, hc2⟩ := isVar_form hv
    have HV := Lib.hid hv; have HG := Lib.hid hg; have Hvc := Lib.hid hvc
    have hdig : digitOf p.hd.1 1 = c.toNat - 48 := by rw [hvc]; rfl
    have Hdig := Lib.hid hdig
    rw [hvc] at c1
    have hix : ∀ W : World, (Instr.index 9 (.string (str [118, c])) (.int .i64 1)).run Try.prog W = .ok (.int .u8 (c.toNat : Int)) W := fun _ => by rfl
    have hwr := digit_wrap c hc1 (by omega)
    have hwr2 : IntKind.i64.wrap ((c.toNat - 48 : Nat) : Int) = ((c.toNat - 48 : Nat) : Int) := IntWalk.i64_in _ (by omega)
    clear hv hg hvc hb hdig
    go_enter Try.func88, Try.ntmps88
    go_wp2_with fail
    refine (variable_any (str [118, c]) _).mono ?_
    rintro e w1 ⟨rfl, rfl⟩
    rw [data_str, show isVar [118, c] = true from Hvc.out ▸ HV.out]
    go_wp2_with fail
    refine (goes_any b s p _ hs (HP.out.keep (below1 _ _)) HG.out).mono ?_
    rintro e w1 ⟨rfl, hgr, hP1⟩
    have hZ := (Blk.new w 36 zeroExpr).grown hgr (by simp; omega)
    have hG1 : w.grownBy w1 (some b) := grown_trans (grown_alloc (World.grownBy.refl _ _) _) hgr
    have hsz1 := hgr.size
    simp only [World.size_alloc] at hsz1
    have HP1 := Lib.hid hP1; have HZ := Lib.hid hZ
    clear hP1 hZ hgr
    go_wp2_with fail
    go_region_with (first
      | (go_at_call 63; refine (within_any 87 un s hs d hd enters_un HU.out (fun p hp => (HC.out p hp).1) _ b p.goes (HP1.out.drew) HD.out).mono ?_; rintro e w3 ⟨x3, rfl, hE3, hgr3, hP3⟩;
         obtain ⟨rk, ra, rv, rA, rn, rc, rfl⟩ := hE3.four;
         have hgr3 := grown_of_drew hgr3;
         have hZ3 := HZ.out.grown hgr3 (by simp; omega);
         have hltZ := hZ3.lt;
         obtain ⟨⟨z0, z1, z2, z3⟩, zf0, zf1, zf2, zf3⟩ := hZ3.four;
         have HE3 := Lib.hid hE3; have HP3 := Lib.hid hP3; have HZ3 := Lib.hid hZ3; clear hE3 hP3 hZ3))
    all_goals
      go_wp2_with fail
      have hsz3 := hgr3.size
      rw [Hdig.out]
      refine ret_expr rfl w.heap.size _ _ _ _ rfl rfl ((HZ3.out.put4 _ _ _ _).alloc _) ⟨_, rfl, ?_, grown_alloc (grown_fresh4 (grown_trans hG1 hgr3) (by omega) _ _ _ _) _, (HP3.out.put4 (by omega) _ _ _ _).keep (below1 _ _)⟩
      refine ExprV.one (T := 36) (ExprV.alloc (ExprV.mono (ok := fun g => w1.heap.size ≤ g) (by intro g h1 h2; omega) _ _ (ExprV.put4 HE3.out (by simp; omega) _ _ _ _)) _) (by omega) ?_ _ _ _ _
      have := Blk.new ((((w3.setCell ⟨w.heap.size, 0, none⟩ (.int .i64 kind)).setCell ⟨w.heap.size, 1, none⟩ (.int .i64 at_)).setCell ⟨w.heap.size, 2, none⟩ (.int .i64 ((c.toNat - 48 : Nat) : Int))).setCell ⟨w.heap.size, 3, none⟩ (.slice (some ⟨w3.heap.size, 0, none⟩) 1 1)) 36
        #[.int .i64 rk, .int .i64 ra, .int .i64 rv, .slice rA rn rc]
      simpa using this
end Go.Proofs.Ytmjpecjciibngaa
