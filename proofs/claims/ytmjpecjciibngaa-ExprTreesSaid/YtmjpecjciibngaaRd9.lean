/- The reader in memory: prim. -/
import Derived.Test.YtmjpecjciibngaaRd8
namespace Go.Proofs.Ytmjpecjciibngaa
open Go.RowKit
set_option linter.unusedVariables false

theorem len2 {w : World} {g : Nat} {t : TypeId} {a b : Value} (h : Blk w g t #[a, b]) : w.cell? ⟨g, 0, none⟩ = some a ∧ w.cell? ⟨g, 1, none⟩ = some b := ⟨h.cell 0, h.cell 1⟩

set_option maxRecDepth 100000 in
set_option maxHeartbeats 4000000 in
theorem prim_any (iff_ : Rd) (s : Bs) (hs : s.length ≤ 4000) (d : Nat) (hd : d ≤ 30)
    (hif : d < 30 → Does 31 iff_ s (d + 1)) (hci : Calm iff_ (d + 1)) : Does 89 (primP iff_) s d := by
  intro w b p hP hpd
  have hlt := hP.blk.lt
  have hat := hP.at_le
  obtain ⟨⟨c0, c1, c2, c3, c4, c5⟩, f0, f1, f2, f3, f4, f5⟩ := six hP.blk
  have HP := Lib.hid hP; have HD := Lib.hid hpd; have HI := Lib.hid hif; have HC := Lib.hid hci
  clear hP hpd hif hci c0 c3 c4 c5 f0 f1 f2 f3 f4 f5
  cases hv : isVar p.hd.1
  · have hF : primP iff_ p = if p.hd.1 = [48] ∨ p.hd.1 = [49] then (.node 2 p.hd.2 (digitOf p.hd.1 0) [], p.goes)
        else (let m := p.may [40]
          if m.1 then ((within iff_ m.2).1, (within iff_ m.2).2.must [41])
          else
            let m2 := m.2.may [105, 116, 101]
            if m2.1 then iteP iff_ p.hd.2 m2.2 else (.zero, m2.2.bad 230)) := by unfold primP; simp [hv]
    have HV := Lib.hid hv; clear hv
    by_cases hdg : p.hd.1 = [48] ∨ p.hd.1 = [49]
    · obtain ⟨c, hc, hc1, hc2, hcc⟩ : ∃ c : UInt8, p.hd.1 = [c] ∧ 48 ≤ c.toNat ∧ c.toNat ≤ 49 ∧ (c = 48 ∨ c ≠ 48 ∧ c = 49) := by
        rcases hdg with h | h
        · exact ⟨48, h, by decide, by decide, .inl rfl⟩
        · exact ⟨49, h, by decide, by decide, .inr ⟨by decide, rfl⟩⟩
      have hg : good p.hd.1 := by rw [hc]; rcases hcc with rfl | ⟨_, rfl⟩ <;> decide
      rw [hF, if_pos hdg]
      have hdig : digitOf p.hd.1 0 = c.toNat - 48 := by rw [hc]; rfl
      rw [hdig]
      have hHd : p.hd.2 = p.at_ := rfl
      rw [hHd]
      rw [hc] at c1
      have HG := Lib.hid hg; have Hc := Lib.hid hc
      have hvc : isVar [c] = false := rfl
      have hix : ∀ W : World, (Instr.index 9 (.string (str [c])) (.int .i64 0)).run Try.prog W = .ok (.int .u8 (c.toNat : Int)) W := fun _ => by rfl
      have hwr := digit_wrap c hc1 (by omega)
      have hwr2 : IntKind.i64.wrap ((c.toNat - 48 : Nat) : Int) = ((c.toNat - 48 : Nat) : Int) := IntWalk.i64_in _ (by omega)
      have HVC := Lib.hid hvc
      clear hF hdg hg hc hdig hvc hHd
      rcases hcc with h48 | ⟨h48, h49⟩
      · have t1 : ((str [c]).toList == ([48] : Bs)) = true := by rw [toList_str, h48]; rfl
        have t1' : (str [c]).toList = [48] := by rw [toList_str, h48]
        clear h48
        go_enter Try.func89, Try.ntmps89
        go_wp2_with fail
        refine (variable_any (str [c]) _).mono ?_
        rintro e w1 ⟨rfl, rfl⟩
        rw [data_str, HVC.out]
        go_wp2_with fail
        refine (goes_any b s p _ hs ((HP.out.keep (below1 _ _)).keep (below1 _ _)) HG.out).mono ?_
        rintro e w1 ⟨rfl, hgr, hP1⟩
        have hZ := ((Blk.new w 36 zeroExpr).alloc (.cells #[.string (str [c]), .int .i64 (p.at_ : Int)] 60)).grown hgr (by simp; omega)
        have hT := len2 ((Blk.new1 w (.cells zeroExpr 36) 60 #[.string (str [c]), .int .i64 (p.at_ : Int)]).grown hgr (by simp; omega))
        obtain ⟨tk0, tk1⟩ := hT
        obtain ⟨⟨z0, z1, z2, z3⟩, zf0, zf1, zf2, zf3⟩ := hZ.four
        have hG1 : w.grownBy w1 (some b) := grown_trans (grown_alloc (grown_alloc (World.grownBy.refl _ _) _) _) hgr
        have HP1 := Lib.hid hP1; have HZ := Lib.hid hZ
        clear hP1 hZ hgr c1 c2
        go_wp2_with fail
        go_region
        go_wp2_with fail
        exact ret_expr rfl w.heap.size _ _ _ _ rfl rfl (HZ.out.put4 _ _ _ _).drew ⟨_, rfl, ExprV.leaf _ _ _ _ _, grown_drew (grown_fresh4 hG1 (by omega) _ _ _ _), (HP1.out.put4 (by omega) _ _ _ _).drew⟩
      · have t1 : ((str [c]).toList == ([48] : Bs)) = false := by rw [toList_str]; simp [h48]
        have t1' : ¬ (str [c]).toList = [48] := by rw [toList_str]; simp [h48]
        have t2 : ((str [c]).toList == ([49] : Bs)) = true := by rw [toList_str, h49]; rfl
        have t2' : (str [c]).toList = [49] := by rw [toList_str, h49]
        clear h48 h49
        go_enter Try.func89, Try.ntmps89
        go_wp2_with fail
        refine (variable_any (str [c]) _).mono ?_
        rintro e w1 ⟨rfl, rfl⟩
        rw [data_str, HVC.out]
        go_wp2_with fail
        refine (goes_any b s p _ hs ((HP.out.keep (below1 _ _)).keep (below1 _ _)) HG.out).mono ?_
        rintro e w1 ⟨rfl, hgr, hP1⟩
        have hZ := ((Blk.new w 36 zeroExpr).alloc (.cells #[.string (str [c]), .int .i64 (p.at_ : Int)] 60)).grown hgr (by simp; omega)
        have hT := len2 ((Blk.new1 w (.cells zeroExpr 36) 60 #[.string (str [c]), .int .i64 (p.at_ : Int)]).grown hgr (by simp; omega))
        obtain ⟨tk0, tk1⟩ := hT
        obtain ⟨⟨z0, z1, z2, z3⟩, zf0, zf1, zf2, zf3⟩ := hZ.four
        have hG1 : w.grownBy w1 (some b) := grown_trans (grown_alloc (grown_alloc (World.grownBy.refl _ _) _) _) hgr
        have HP1 := Lib.hid hP1; have HZ := Lib.hid hZ
        clear hP1 hZ hgr c1 c2
        go_wp2_with fail
        go_region
        go_wp2_with fail
        exact ret_expr rfl w.heap.size _ _ _ _ rfl rfl (HZ.out.put4 _ _ _ _).drew ⟨_, rfl, ExprV.leaf _ _ _ _ _, grown_drew (grown_fresh4 hG1 (by omega) _ _ _ _), (HP1.out.put4 (by omega) _ _ _ _).drew⟩
    · have t1 : ((str p.hd.1).toList == ([48] : Bs)) = false := by rw [toList_str]; simp; exact fun h => hdg (.inl h)
      have t1' : ¬ (str p.hd.1).toList = [48] := by rw [toList_str]; exact fun h => hdg (.inl h)
      have t2 : ((str p.hd.1).toList == ([49] : Bs)) = false := by rw [toList_str]; simp; exact fun h => hdg (.inr h)
      have t2' : ¬ (str p.hd.1).toList = [49] := by rw [toList_str]; exact fun h => hdg (.inr h)
      have HF := Lib.hid hF; have HDg := Lib.hid hdg
      clear hF hdg
      go_enter Try.func89, Try.ntmps89
      go_wp2_with fail
      refine (variable_any (str p.hd.1) _).mono ?_
      rintro e w1 ⟨rfl, rfl⟩
      rw [data_str, HV.out]
      go_wp2_with fail
      refine (may_any b s p [40] _ hs ((HP.out.keep (below1 _ _)).keep (below1 _ _)) (by decide)).mono ?_
      rintro e w1 ⟨rfl, hgr, hP1⟩
      have hZ1 := ((Blk.new w 36 zeroExpr).alloc (.cells #[.string (str p.hd.1), .int .i64 (p.at_ : Int)] 60)).grown hgr (by simp; omega)
      have hT1 := (Blk.new1 w (.cells zeroExpr 36) 60 #[.string (str p.hd.1), .int .i64 (p.at_ : Int)]).grown hgr (by simp; omega)
      have hG1 : w.grownBy w1 (some b) := grown_trans (grown_alloc (grown_alloc (World.grownBy.refl _ _) _) _) hgr
      have hsz1 := hgr.size
      simp only [World.size_alloc] at hsz1
      have hq1 := Lib.hid (may_calm p [40])
      have HP1 := Lib.hid hP1; have HZ1 := Lib.hid hZ1; have HT1 := Lib.hid hT1
      clear hP1 hZ1 hT1 hgr c1 c2
      cases hm : (p.may [40]).1
      · have Hm := Lib.hid hm; clear hm
        go_wp2_with fail
        refine (may_any b s (p.may [40]).2 [105, 116, 101] _ hs HP1.out (by decide)).mono ?_
        rintro e w2 ⟨rfl, hgr, hP2⟩
        have hG2 := grown_trans hG1 hgr
        have hsz2 := hgr.size
        have hZ2 := HZ1.out.grown hgr (by simp; omega)
        have hT2 := HT1.out.grown hgr (by simp; omega)
        have hq2 := Lib.hid (may_calm (p.may [40]).2 [105, 116, 101])
        have HP2 := Lib.hid hP2; have HZ2 := Lib.hid hZ2
        cases hm : ((p.may [40]).2.may [105, 116, 101]).1
        · have Hm2 := Lib.hid hm; clear hm hP2 hZ2 hT2 hgr
          go_wp2_with fail
          refine (bad_any b s ((p.may [40]).2.may [105, 116, 101]).2 230 _ HP2.out).mono ?_
          rintro e w3 ⟨rfl, hgr, hP3⟩
          have hG3 := grown_trans hG2 hgr
          have hZ3 := HZ2.out.grown hgr (by simp; omega)
          obtain ⟨⟨z0, z1, z2, z3⟩, zf0, zf1, zf2, zf3⟩ := hZ3.four
          have HP3 := Lib.hid hP3; have HZ3 := Lib.hid hZ3
          clear hP3 hZ3 hgr
          go_wp2_with fail
          rw [show primP iff_ p = (.zero, ((p.may [40]).2.may [105, 116, 101]).2.bad 230) by rw [HF.out, if_neg HDg.out]; simp only [Hm.out, Hm2.out]; rfl]
          exact ret_expr rfl w.heap.size _ _ _ _ rfl rfl (HZ3.out.put4 _ _ _ _) ⟨_, rfl, ExprV.zero _ _, grown_fresh4 hG3 (by omega) _ _ _ _, HP3.out.put4 (by omega) _ _ _ _⟩
        · have Hm2 := Lib.hid hm
          obtain ⟨tk0, tk1⟩ := len2 hT2
          clear hm hP2 hZ2 hT2 hgr
          go_wp2_with fail
          refine (ite_any iff_ p.at_ s hs d hd HI.out HC.out _ b ((p.may [40]).2.may [105, 116, 101]).2 HP2.out (hq2.out.1.trans (hq1.out.1.trans HD.out))).mono ?_
          rintro e w3 ⟨x, rfl, hE, hgr, hP3⟩
          obtain ⟨rk, ra, rv, rA, rn, rc, rfl⟩ := hE.four
          have hG3 := grown_trans hG2 hgr
          have hZ3 := HZ2.out.grown hgr (by simp; omega)
          have hE3 : ExprV (fun x => w.heap.size ≤ x ∧ x ≠ w.heap.size) _ _ _ := ExprV.mono (by intro g _ h; exact ⟨by omega, by omega⟩) _ _ hE
          obtain ⟨⟨z0, z1, z2, z3⟩, zf0, zf1, zf2, zf3⟩ := hZ3.four
          have HP3 := Lib.hid hP3; have HZ3 := Lib.hid hZ3; have HE3 := Lib.hid hE3
          clear hP3 hZ3 hE hE3 hgr tk0 tk1
          go_wp2_with fail
          rw [show primP iff_ p = iteP iff_ p.at_ ((p.may [40]).2.may [105, 116, 101]).2 by rw [HF.out, if_neg HDg.out]; simp only [Hm.out, Hm2.out]; rfl]
          exact lay_ret rfl rfl rfl HZ3.out (by omega) (Nat.le_refl _) HE3.out hG3 HP3.out
      · have Hm := Lib.hid hm; clear hm
        go_wp2_with fail
        refine (within_any 31 iff_ s hs d hd enters_iff HI.out (fun p hp => (HC.out p hp).1) _ b (p.may [40]).2 HP1.out (hq1.out.1.trans HD.out)).mono ?_
        rintro e w2 ⟨x, rfl, hE, hgr, hP2⟩
        obtain ⟨rk, ra, rv, rA, rn, rc, rfl⟩ := hE.four
        have hG2 := grown_trans hG1 hgr
        have hsz2 := hgr.size
        have hZ2 := HZ1.out.grown hgr (by simp; omega)
        have hE2 : ExprV (fun x => w.heap.size ≤ x ∧ x ≠ w.heap.size) w2 (within iff_ (p.may [40]).2).1 (.agg #[.int .i64 rk, .int .i64 ra, .int .i64 rv, .slice rA rn rc]) := ExprV.mono (by intro g _ h; exact ⟨by omega, by omega⟩) _ _ hE
        have HP2 := Lib.hid hP2; have HZ2 := Lib.hid hZ2; have HE2 := Lib.hid hE2
        clear hP2 hZ2 hE hE2 hgr
        go_wp2_with fail
        refine (must_any b s (within iff_ (p.may [40]).2).2 [41] _ hs (HP2.out.keep (below1 _ _)) (by decide)).mono ?_
        rintro e w3 ⟨rfl, hgr, hP3⟩
        have hG3 : w.grownBy w3 (some b) := grown_trans (grown_alloc hG2 _) hgr
        have hZ3 := (HZ2.out.alloc (.cells #[.int .i64 rk, .int .i64 ra, .int .i64 rv, .slice rA rn rc] 36)).grown hgr (by simp; omega)
        have hX3 := (Blk.new w2 36 #[.int .i64 rk, .int .i64 ra, .int .i64 rv, .slice rA rn rc]).grown hgr (by simp; omega)
        have hE3 := (HE2.out.alloc (.cells #[.int .i64 rk, .int .i64 ra, .int .i64 rv, .slice rA rn rc] 36)).grown hgr (by intro g hg; simp at hg; omega)
        obtain ⟨⟨z0, z1, z2, z3⟩, zf0, zf1, zf2, zf3⟩ := hZ3.four
        obtain ⟨⟨x0, x1, x2, x3⟩, _, _, _, _⟩ := hX3.four
        have HP3 := Lib.hid hP3; have HZ3 := Lib.hid hZ3; have HE3 := Lib.hid hE3
        clear hP3 hZ3 hE3 hgr hX3
        go_wp2_with fail
        rw [show primP iff_ p = ((within iff_ (p.may [40]).2).1, (within iff_ (p.may [40]).2).2.must [41]) by rw [HF.out, if_neg HDg.out]; simp only [Hm.out]; rfl]
        exact lay_ret rfl rfl rfl HZ3.out (by omega) (Nat.le_refl _) HE3.out hG3 HP3.out
  · have hg := isVar_good hv
    have hF : primP iff_ p = (.node 1 p.hd.2 (digitOf p.hd.1 1) [], p.goes) := by unfold primP; simp [hv]
    rw [hF]
    obtain ⟨c, hvc, hc1, hc2⟩ := isVar_form hv
    have hdig : digitOf p.hd.1 1 = c.toNat - 48 := by rw [hvc]; rfl
    have hHd : p.hd.2 = p.at_ := rfl
    rw [hdig, hHd]
    rw [hvc] at c1 hv
    have HV := Lib.hid hv; have HG := Lib.hid hg
    have hix : ∀ W : World, (Instr.index 9 (.string (str [118, c])) (.int .i64 1)).run Try.prog W = .ok (.int .u8 (c.toNat : Int)) W := fun _ => by rfl
    have hwr := digit_wrap c hc1 (by omega)
    have hwr2 : IntKind.i64.wrap ((c.toNat - 48 : Nat) : Int) = ((c.toNat - 48 : Nat) : Int) := IntWalk.i64_in _ (by omega)
    clear hv hg hvc hdig hF hHd
    go_enter Try.func89, Try.ntmps89
    go_wp2_with fail
    refine (variable_any (str [118, c]) _).mono ?_
    rintro e w1 ⟨rfl, rfl⟩
    rw [data_str, HV.out]
    go_wp2_with fail
    refine (goes_any b s p _ hs ((HP.out.keep (below1 _ _)).keep (below1 _ _)) HG.out).mono ?_
    rintro e w1 ⟨rfl, hgr, hP1⟩
    have hZ := ((Blk.new w 36 zeroExpr).alloc (.cells #[.string (str [118, c]), .int .i64 (p.at_ : Int)] 60)).grown hgr (by simp; omega)
    have hT := len2 ((Blk.new1 w (.cells zeroExpr 36) 60 #[.string (str [118, c]), .int .i64 (p.at_ : Int)]).grown hgr (by simp; omega))
    obtain ⟨tk0, tk1⟩ := hT
    obtain ⟨⟨z0, z1, z2, z3⟩, zf0, zf1, zf2, zf3⟩ := hZ.four
    have hG1 : w.grownBy w1 (some b) := grown_trans (grown_alloc (grown_alloc (World.grownBy.refl _ _) _) _) hgr
    have HP1 := Lib.hid hP1; have HZ := Lib.hid hZ
    clear hP1 hZ hgr c1 c2
    go_wp2_with fail
    go_region
    go_wp2_with fail
    exact ret_expr rfl w.heap.size _ _ _ _ rfl rfl (HZ.out.put4 _ _ _ _).drew ⟨_, rfl, ExprV.leaf _ _ _ _ _, grown_drew (grown_fresh4 hG1 (by omega) _ _ _ _), (HP1.out.put4 (by omega) _ _ _ _).drew⟩
end Go.Proofs.Ytmjpecjciibngaa
