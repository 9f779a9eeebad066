/- The reader in memory: un. -/
import Derived.Test.YtmjpecjciibngaaRd6
namespace Go.Proofs.Ytmjpecjciibngaa
open Go.RowKit
set_option linter.unusedVariables false

/-- The end of a reader: what was read is laid into the result's block. -/
theorem lay_ret {fn : Func} {w w1 : World} {a : Act} {b g : Nat} {s : Bs} {T : Tree} {q : PS} {p : Tmp} {k a' v : Int} {A : Option Addr} {n c : Nat} {z0 z1 z2 z3 : Value} (hr : fn.results = #[.cell p 36])
    (hp : a.tmps.getD p undef = .pointer (some ⟨g, 0, none⟩)) (hd : a.defers = []) (hZ : Blk w1 g 36 #[z0, z1, z2, z3]) (hgb : b ≠ g) (hwg : w.heap.size ≤ g)
    (hE : ExprV (fun x => w.heap.size ≤ x ∧ x ≠ g) w1 T (.agg #[.int .i64 k, .int .i64 a', .int .i64 v, .slice A n c])) (hG : w.grownBy w1 (some b)) (hP : PM w1 b s q) :
    bodyPost Try.prog fn (fun e' w' => ∃ x, e' = .returned x ∧ ExprV (fun x => w.heap.size ≤ x) w' T x ∧ w.grownBy w' (some b) ∧ PM w' b s q) .ret a
      ((((w1.setCell ⟨g, 0, none⟩ (.int .i64 k)).setCell ⟨g, 1, none⟩ (.int .i64 a')).setCell ⟨g, 2, none⟩ (.int .i64 v)).setCell ⟨g, 3, none⟩ (.slice A n c)) :=
  ret_expr hr g _ _ _ _ hp hd (hZ.put4 _ _ _ _) ⟨_, rfl, ExprV.mono (by intro x _ h; exact h.1) _ _ (hE.put4 (by simp) _ _ _ _), grown_fresh4 hG hwg _ _ _ _, hP.put4 hgb _ _ _ _⟩
theorem lay_ret1 {fn : Func} {w w1 : World} {a : Act} {b g : Nat} {s : Bs} {T : Tree} {q : PS} {p : Tmp} {k a' v rk ra rv : Int} {rA : Option Addr} {rn rc : Nat} {z0 z1 z2 z3 : Value} (hr : fn.results = #[.cell p 36])
    (hp : a.tmps.getD p undef = .pointer (some ⟨g, 0, none⟩)) (hd : a.defers = []) (hZ : Blk w1 g 36 #[z0, z1, z2, z3]) (hgb : b ≠ g) (hwg : w.heap.size ≤ g) (hg1 : g < w1.heap.size)
    (hE : ExprV (fun x => w.heap.size ≤ x ∧ x ≠ g) w1 T (.agg #[.int .i64 rk, .int .i64 ra, .int .i64 rv, .slice rA rn rc])) (hG : w.grownBy w1 (some b)) (hP : PM w1 b s q) :
    bodyPost Try.prog fn (fun e' w' => ∃ x, e' = .returned x ∧ ExprV (fun x => w.heap.size ≤ x) w' (.node k a' v [T]) x ∧ w.grownBy w' (some b) ∧ PM w' b s q) .ret a
      (((((w1.setCell ⟨g, 0, none⟩ (.int .i64 k)).setCell ⟨g, 1, none⟩ (.int .i64 a')).setCell ⟨g, 2, none⟩ (.int .i64 v)).setCell ⟨g, 3, none⟩ (.slice (some ⟨w1.heap.size, 0, none⟩) 1 1)).alloc
        (.cells #[.int .i64 rk, .int .i64 ra, .int .i64 rv, .slice rA rn rc] 36)) := by
  refine ret_expr hr g _ _ _ _ hp hd ((hZ.put4 _ _ _ _).alloc _) ⟨_, rfl, ?_, grown_alloc (grown_fresh4 hG hwg _ _ _ _) _, (hP.put4 hgb _ _ _ _).keep (below1 _ _)⟩
  refine ExprV.one (T := 36) (ExprV.alloc (ExprV.mono (by intro x _ h; exact h.1) _ _ (hE.put4 (by simp) _ _ _ _)) _) (by omega) ?_ _ _ _ _
  have := Blk.new ((((w1.setCell ⟨g, 0, none⟩ (.int .i64 k)).setCell ⟨g, 1, none⟩ (.int .i64 a')).setCell ⟨g, 2, none⟩ (.int .i64 v)).setCell ⟨g, 3, none⟩ (.slice (some ⟨w1.heap.size, 0, none⟩) 1 1)) 36
    #[.int .i64 rk, .int .i64 ra, .int .i64 rv, .slice rA rn rc]
  simpa using this

set_option maxRecDepth 100000 in
set_option maxHeartbeats 4000000 in
theorem un_any (un iff_ : Rd) (s : Bs) (hs : s.length ≤ 4000) (d : Nat) (hd : d ≤ 30)
    (hun : d < 30 → Does 87 un s (d + 1)) (hcu : Calm un (d + 1)) (hpr : Does 89 (primP iff_) s d) : Does 87 (unP un iff_) s d := by
  intro w b p hP hpd
  have hlt := hP.blk.lt
  obtain ⟨⟨c0, c1, c2, c3, c4, c5⟩, f0, f1, f2, f3, f4, f5⟩ := six hP.blk
  have HP := Lib.hid hP; have HD := Lib.hid hpd; have HU := Lib.hid hun; have HC := Lib.hid hcu; have HPr := Lib.hid hpr
  clear hP hpd hun hcu hpr c0 c1 c3 c5 f0 f1 f2 f3 f4 f5
  by_cases he : p.e = 0
  · have hF : unP un iff_ p = (let m := p.may [33]
      if m.1 then (.node 3 p.at_ 0 [(within un m.2).1], (within un m.2).2)
      else
        let m2 := m.2.may [97, 108, 108]
        if m2.1 then boundP un 10 p.at_ m2.2
        else
          let m3 := m2.2.may [97, 110, 121]
          if m3.1 then boundP un 11 p.at_ m3.2 else primP iff_ m3.2) := by unfold unP; simp [he]
    have HF := Lib.hid hF
    rw [he] at c4
    clear hF he
    go_enter Try.func87, Try.ntmps87
    go_wp2_with fail
    refine (may_any b s p [33] _ hs (HP.out.keep (below1 _ _)) (by decide)).mono ?_
    rintro e w1 ⟨rfl, hgr, hP1⟩
    have hG1 : w.grownBy w1 (some b) := grown_trans (grown_alloc (World.grownBy.refl _ _) _) hgr
    have hsz1 := hgr.size
    simp only [World.size_alloc] at hsz1
    have hZ1 := (Blk.new w 36 zeroExpr).grown hgr (by simp; omega)
    have HP1 := Lib.hid hP1; have HZ1 := Lib.hid hZ1
    have hq1 := Lib.hid (may_calm p [33])
    clear hP1 hZ1 hgr c2 c4
    cases hm : (p.may [33]).1
    · have Hm := Lib.hid hm; clear hm
      go_wp2_with fail
      refine (may_any b s (p.may [33]).2 [97, 108, 108] _ hs HP1.out (by decide)).mono ?_
      rintro e w2 ⟨rfl, hgr, hP1⟩
      have hG2 := grown_trans hG1 hgr
      have hsz2 := hgr.size
      have hZ2 := HZ1.out.grown hgr (by simp; omega)
      have HP2 := Lib.hid hP1; have HZ2 := Lib.hid hZ2
      have hq2 := Lib.hid (may_calm (p.may [33]).2 [97, 108, 108])
      clear hP1 hZ2 hgr
      cases hm : ((p.may [33]).2.may [97, 108, 108]).1
      · have Hm2 := Lib.hid hm; clear hm
        go_wp2_with fail
        refine (may_any b s ((p.may [33]).2.may [97, 108, 108]).2 [97, 110, 121] _ hs HP2.out (by decide)).mono ?_
        rintro e w3 ⟨rfl, hgr, hP1⟩
        have hG3 := grown_trans hG2 hgr
        have hsz3 := hgr.size
        have hZ3 := HZ2.out.grown hgr (by simp; omega)
        have HP3 := Lib.hid hP1; have HZ3 := Lib.hid hZ3
        have hq3 := Lib.hid (may_calm ((p.may [33]).2.may [97, 108, 108]).2 [97, 110, 121])
        clear hP1 hZ3 hgr
        cases hm : (((p.may [33]).2.may [97, 108, 108]).2.may [97, 110, 121]).1
        · have Hm3 := Lib.hid hm; clear hm
          go_wp2_with fail
          refine (HPr.out _ b (((p.may [33]).2.may [97, 108, 108]).2.may [97, 110, 121]).2 HP3.out (hq3.out.1.trans (hq2.out.1.trans (hq1.out.1.trans HD.out)))).mono ?_
          rintro e w4 ⟨x, rfl, hE, hgr, hP4⟩
          obtain ⟨rk, ra, rv, rA, rn, rc, rfl⟩ := hE.four
          have hsz4 := hgr.size
          have hZ4 := HZ3.out.grown hgr (by simp; omega)
          have hltZ := hZ4.lt
          have hG4 := grown_trans hG3 hgr
          have hE4 : ExprV (fun x => w.heap.size ≤ x ∧ x ≠ w.heap.size) _ _ _ := ExprV.mono (by intro g _ h; exact ⟨by omega, by omega⟩) _ _ hE
          obtain ⟨⟨z0, z1, z2, z3⟩, zf0, zf1, zf2, zf3⟩ := hZ4.four
          have HZ4 := Lib.hid hZ4; have HE := Lib.hid hE4; have HP4 := Lib.hid hP4
          clear hE hZ4 hE4 hP4 hgr
          go_wp2_with fail
          rw [show unP un iff_ p = primP iff_ (((p.may [33]).2.may [97, 108, 108]).2.may [97, 110, 121]).2 by rw [HF.out]; simp only [Hm.out, Hm2.out, Hm3.out]; rfl]
          exact lay_ret rfl rfl rfl HZ4.out (by omega) (Nat.le_refl _) HE.out hG4 HP4.out
        · have Hm3 := Lib.hid hm; clear hm
          go_wp2_with fail
          refine (bound_any un 11 p.at_ s hs d hd HU.out HC.out _ b (((p.may [33]).2.may [97, 108, 108]).2.may [97, 110, 121]).2 HP3.out (hq3.out.1.trans (hq2.out.1.trans (hq1.out.1.trans HD.out)))).mono ?_
          rintro e w4 ⟨x, rfl, hE, hgr, hP4⟩
          obtain ⟨rk, ra, rv, rA, rn, rc, rfl⟩ := hE.four
          have hsz4 := hgr.size
          have hZ4 := HZ3.out.grown hgr (by simp; omega)
          have hltZ := hZ4.lt
          have hG4 := grown_trans hG3 hgr
          have hE4 : ExprV (fun x => w.heap.size ≤ x ∧ x ≠ w.heap.size) _ _ _ := ExprV.mono (by intro g _ h; exact ⟨by omega, by omega⟩) _ _ hE
          obtain ⟨⟨z0, z1, z2, z3⟩, zf0, zf1, zf2, zf3⟩ := hZ4.four
          have HZ4 := Lib.hid hZ4; have HE := Lib.hid hE4; have HP4 := Lib.hid hP4
          clear hE hZ4 hE4 hP4 hgr
          go_wp2_with fail
          rw [show unP un iff_ p = boundP un 11 p.at_ (((p.may [33]).2.may [97, 108, 108]).2.may [97, 110, 121]).2 by rw [HF.out]; simp only [Hm.out, Hm2.out, Hm3.out]; rfl]
          exact lay_ret rfl rfl rfl HZ4.out (by omega) (Nat.le_refl _) HE.out hG4 HP4.out
      · have Hm2 := Lib.hid hm; clear hm
        go_wp2_with fail
        refine (bound_any un 10 p.at_ s hs d hd HU.out HC.out _ b ((p.may [33]).2.may [97, 108, 108]).2 HP2.out (hq2.out.1.trans (hq1.out.1.trans HD.out))).mono ?_
        rintro e w4 ⟨x, rfl, hE, hgr, hP4⟩
        have hG3 := hG2; have HZ3 := HZ2; have hsz3 := Nat.le_refl w2.heap.size
        obtain ⟨rk, ra, rv, rA, rn, rc, rfl⟩ := hE.four
        have hsz4 := hgr.size
        have hZ4 := HZ3.out.grown hgr (by simp; omega)
        have hltZ := hZ4.lt
        have hG4 := grown_trans hG3 hgr
        have hE4 : ExprV (fun x => w.heap.size ≤ x ∧ x ≠ w.heap.size) _ _ _ := ExprV.mono (by intro g _ h; exact ⟨by omega, by omega⟩) _ _ hE
        obtain ⟨⟨z0, z1, z2, z3⟩, zf0, zf1, zf2, zf3⟩ := hZ4.four
        have HZ4 := Lib.hid hZ4; have HE := Lib.hid hE4; have HP4 := Lib.hid hP4
        clear hE hZ4 hE4 hP4 hgr
        go_wp2_with fail
        rw [show unP un iff_ p = boundP un 10 p.at_ ((p.may [33]).2.may [97, 108, 108]).2 by rw [HF.out]; simp only [Hm.out, Hm2.out]; rfl]
        exact lay_ret rfl rfl rfl HZ4.out (by omega) (Nat.le_refl _) HE.out hG4 HP4.out
    · have Hm := Lib.hid hm; clear hm
      go_wp2_with fail
      refine (within_any 87 un s hs d hd enters_un HU.out (fun p hp => (HC.out p hp).1) _ b (p.may [33]).2 HP1.out (hq1.out.1.trans HD.out)).mono ?_
      rintro e w4 ⟨x, rfl, hE, hgr, hP4⟩
      have hG3 := hG1; have HZ3 := HZ1; have hsz2 := Nat.le_refl w1.heap.size; have hsz3 := Nat.le_refl w1.heap.size
      obtain ⟨rk, ra, rv, rA, rn, rc, rfl⟩ := hE.four
      have hsz4 := hgr.size
      have hZ4 := HZ3.out.grown hgr (by simp; omega)
      have hltZ := hZ4.lt
      have hG4 := grown_trans hG3 hgr
      have hE4 : ExprV (fun x => w.heap.size ≤ x ∧ x ≠ w.heap.size) _ _ _ := ExprV.mono (by intro g _ h; exact ⟨by omega, by omega⟩) _ _ hE
      obtain ⟨⟨z0, z1, z2, z3⟩, zf0, zf1, zf2, zf3⟩ := hZ4.four
      have HZ4 := Lib.hid hZ4; have HE := Lib.hid hE4; have HP4 := Lib.hid hP4
      clear hE hZ4 hE4 hP4 hgr
      go_wp2_with fail
      rw [show unP un iff_ p = (.node 3 p.at_ 0 [(within un (p.may [33]).2).1], (within un (p.may [33]).2).2) by rw [HF.out]; simp only [Hm.out]; rfl]
      exact lay_ret1 rfl rfl rfl HZ4.out (by omega) (Nat.le_refl _) (by omega) HE.out hG4 HP4.out
  · have he3 : ((p.e : Int) != 0) = true := by rw [bne_iff_ne]; omega
    have hF : unP un iff_ p = (.zero, p) := by unfold unP; simp [he]
    rw [hF]
    clear hF
    go_enter Try.func87, Try.ntmps87
    go_wp2_with fail
    exact ret_expr rfl w.heap.size _ _ _ _ rfl rfl (Blk.new _ _ _) ⟨_, rfl, ExprV.zero _ _, grown_alloc (World.grownBy.refl _ _) _, HP.out.keep (below1 _ _)⟩
end Go.Proofs.Ytmjpecjciibngaa
