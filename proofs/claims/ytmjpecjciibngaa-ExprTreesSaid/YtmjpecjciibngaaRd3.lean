/- The reader in memory: what is one deeper. -/
import Derived.Test.YtmjpecjciibngaaBLex
namespace Go.Proofs.Ytmjpecjciibngaa
open Go.RowKit
set_option linter.unusedVariables false

theorem up_any (b c : Nat) (s : Bs) (p : PS) (u : FrameMode) (w : World) (hP : PM w b s p) (hc : w.cell? ⟨c, 0, none⟩ = some (.pointer (some ⟨b, 0, none⟩))) (hd : 1 ≤ p.depth) (hd2 : p.depth ≤ 100) :
    CallsD Try.prog 78 #[.pointer (some ⟨c, 0, none⟩)] u w fun e' u' w' => u' = u ∧ (e' = .returned (.tuple #[]) ∧ w.grownBy w' (some b) ∧ PM w' b s { p with depth := p.depth - 1 }) := by
  obtain ⟨⟨c0, c1, c2, c3, c4, c5⟩, f0, f1, f2, f3, f4, f5⟩ := six hP.blk
  have HP := Lib.hid hP; clear hP
  clear c0 c1 c2 c4 c5 f0 f1 f2 f4 f5
  go_enter_d Try.func78, Try.ntmps78
  go_wp2
  go_end0
  refine ⟨rfl, grown_at (World.grownBy.refl _ _) _ _, ?_, HP.out.lex⟩
  have := HP.out.blk.set 3 (.int .i64 ((p.depth : Int) - 1))
  rw [show ((p.depth : Int) - 1) = ((p.depth - 1 : Nat) : Int) by omega] at this
  rw [show ((p.depth : Int) - 1) = ((p.depth - 1 : Nat) : Int) by omega]
  exact this

theorem door {w0 w : World} {a : Act} {b c g : Nat} {s : Bs} {q : PS} {T : Tree} {c0 c1 c2 c3 : Value} (h4 : a.tmps.getD 4 undef = .pointer (some ⟨g, 0, none⟩))
    (hdef : a.defers = [{ target := Target.fn (Fn.func 78) #[.pointer (some ⟨c, 0, none⟩)], args := #[] }]) (hB : Blk w g 36 #[c0, c1, c2, c3]) (hgb : g ≠ b)
    (hE : ExprV (fun g => w0.heap.size ≤ g) w T (.agg #[c0, c1, c2, c3])) (hb0 : b < w0.heap.size) (hg : w0.grownBy w (some b)) (hP : PM w b s q) (hc : w.cell? ⟨c, 0, none⟩ = some (.pointer (some ⟨b, 0, none⟩))) (hd : 1 ≤ q.depth) (hd2 : q.depth ≤ 100) :
    bodyPostD Try.prog Try.f63 (fun e' w' => ∃ x, e' = .returned x ∧ ExprV (fun g => w0.heap.size ≤ g) w' T x ∧ w0.grownBy w' (some b) ∧ PM w' b s { q with depth := q.depth - 1 }) .ret a w := by
  obtain ⟨tmps, defers⟩ := a
  simp only at hdef h4
  subst hdef
  refine leaves_cons (f := 78) (args := #[.pointer (some ⟨c, 0, none⟩)]) (by simp) (by simp [go_sem]) ?_
  refine (up_any b c s q .returning _ hP hc hd hd2).mono ?_
  rintro e u' w'' ⟨rfl, rfl, hgr, hP'⟩
  exact ⟨_, results_cell_row rfl _ _ g 36 #[c0, c1, c2, c3] (0, 0) _ h4 (hB.grown hgr (by simpa using hgb)) Try.underlying36 rfl (by kernel_rfl), _, rfl, hE.grown hgr (by intro g hg; cases hg; simpa using hb0), grown_trans hg hgr, hP'⟩

theorem PM.deeper {w : World} {b : Nat} {s : Bs} {p : PS} (h : PM w b s p) (n : Nat) (v : Int) (hv : v = (n : Int)) : PM (w.setCell ⟨b, 3, none⟩ (.int .i64 v)) b s { p with depth := n } := by
  subst hv; exact ⟨h.blk.set 3 _, h.lex⟩

set_option maxRecDepth 100000 in
theorem within_any (fid : Nat) (R : Rd) (s : Bs) (hs : s.length ≤ 4000) (d : Nat) (hd : d ≤ 30) (hent : ∀ args W, (callFunc fid args).run Try.prog W = .ok (.enter fid args) W) (hR : d < 30 → Does fid R s (d + 1)) (hdep : ∀ p : PS, p.depth = d + 1 → (R p).2.depth = d + 1)
    (w : World) (b : Nat) (p : PS) (hP : PM w b s p) (hpd : p.depth = d) :
    Calls Try.prog 63 #[.pointer (some ⟨b, 0, none⟩), .func (.func fid) #[] #[]] w fun e' w' =>
      ∃ x, e' = .returned x ∧ ExprV (fun g => w.heap.size ≤ g) w' (within R p).1 x ∧ w.grownBy w' (some b) ∧ PM w' b s (within R p).2 := by
  obtain ⟨⟨c0, c1, c2, c3, c4, c5⟩, f0, f1, f2, f3, f4, f5⟩ := six hP.blk
  have hlt := hP.blk.lt
  rw [hpd] at c3
  have hmf : ∀ (fn : Fn) (first cap : Array Value) (w : World), (Instr.makeFunc fn first cap).run Try.prog w = .ok (.func fn first cap) w := fun _ _ _ _ => rfl
  clear f0 f1 f2 f4 f5
  by_cases h30 : d = 30
  · subst h30
    have hw : within R p = (Tree.zero, { ({ p with depth := p.depth + 1 } : PS).bad 231 with depth := (({ p with depth := p.depth + 1 } : PS).bad 231).depth - 1 }) := by
      unfold within
      have he : (({ p with depth := p.depth + 1 } : PS).bad 231).e ≠ 0 := by
        unfold PS.bad; split
        · simp
        · assumption
      simp only [hpd, Nat.lt_succ_self, if_true]
      rw [hpd] at he
      simp [he]
    have he : (({ p with depth := 31 } : PS).bad 231).e ≠ 0 := by
      unfold PS.bad; split
      · simp
      · assumption
    rw [hw, hpd]
    have HP := Lib.hid hP; clear hP
    have HE := Lib.hid he
    have he2 : (((({ p with depth := 31 } : PS).bad 231).e : Nat) : Int) ≠ 0 := by omega
    clear hw he hR hdep hpd
    go_enter_defers Try.func63, Try.ntmps63
    go_wp2_with fail
    refine (bad_any b s { p with depth := 31 } 231 _ (((HP.out.deeper 31 31 rfl).keep (below1 _ _)).keep (below1 _ _))).mono ?_
    rintro e w1 ⟨rfl, hgr, hP1⟩
    have hX := ((Blk.new (w.setCell ⟨b, 3, none⟩ (.int .i64 31)) 58 #[.pointer (some ⟨b, 0, none⟩)]).alloc (.cells zeroExpr 36)).grown hgr (by simp; omega)
    have hY := (Blk.new1 (w.setCell ⟨b, 3, none⟩ (.int .i64 31)) (.cells #[.pointer (some ⟨b, 0, none⟩)] 58) 36 zeroExpr).grown hgr (by simp; omega)
    simp only [World.size_setCell] at hX hY
    have b0 := hX.cell 0
    obtain ⟨⟨r0, r1, r2, r3⟩, g0, g1, g2, g3⟩ := hY.four
    obtain ⟨⟨c0', c1', c2', c3', c4', c5'⟩, _⟩ := six hP1.blk
    have he3 : (((({ p with depth := 31 } : PS).bad 231).e : Int) != 0) = true := by rw [bne_iff_ne]; exact he2
    have hG : w.grownBy w1 (some b) := grown_trans (grown_alloc (grown_alloc (grown_at (World.grownBy.refl _ _) 3 _) _) _) hgr
    have HX := Lib.hid hX; have HY := Lib.hid hY; have HP1 := Lib.hid hP1
    clear hX hY hP1 c0' c1' c2' c3' c5' c0 c1 c2 c3 c4 c5 f3
    go_wp2_with fail
    exact door (g := w.heap.size + 1) (c := w.heap.size) (q := ({ p with depth := 31 } : PS).bad 231) rfl rfl (HY.out.put4 _ _ _ _) (by omega) (ExprV.zero _ _) hlt (grown_fresh4 hG (by omega) _ _ _ _) (HP1.out.put4 (by omega) _ _ _ _)
      ((cell_put4 (by simp) _ _ _ _).trans b0) (by unfold PS.bad; split <;> simp) (by unfold PS.bad; split <;> simp)
  · have hd' : d < 30 := by omega
    by_cases he : p.e = 0
    · have hw : within R p = ((R { p with depth := d + 1 }).1, { (R { p with depth := d + 1 }).2 with depth := (R { p with depth := d + 1 }).2.depth - 1 }) := by
        unfold within
        have : ¬ 30 < d + 1 := by omega
        simp [hpd, this, he]
      have hdd := hdep { p with depth := d + 1 } rfl
      rw [he] at c4
      rw [hw]
      have HD := Lib.hid hdd
      have HR := Lib.hid (hR hd')
      have HP := Lib.hid hP
      clear hw hR hdep hdd hP he
      go_enter_defers Try.func63, Try.ntmps63
      go_wp2_with fail
      refine (HR.out _ b { p with depth := d + 1 } (((HP.out.deeper (d + 1) _ (by omega)).keep (below1 _ _)).keep (below1 _ _)) rfl).mono ?_
      rintro e w1 ⟨x, rfl, hE, hgr, hP1⟩
      obtain ⟨xk, xa, xv, xA, xn, xc, rfl⟩ := hE.four
      have hX := ((Blk.new (w.setCell ⟨b, 3, none⟩ (.int .i64 ((d : Int) + 1))) 58 #[.pointer (some ⟨b, 0, none⟩)]).alloc (.cells zeroExpr 36)).grown hgr (by simp; omega)
      have hY := (Blk.new1 (w.setCell ⟨b, 3, none⟩ (.int .i64 ((d : Int) + 1))) (.cells #[.pointer (some ⟨b, 0, none⟩)] 58) 36 zeroExpr).grown hgr (by simp; omega)
      simp only [World.size_setCell] at hX hY
      have b0 := hX.cell 0
      obtain ⟨⟨r0, r1, r2, r3⟩, g0, g1, g2, g3⟩ := hY.four
      have hG : w.grownBy w1 (some b) := grown_trans (grown_alloc (grown_alloc (grown_at (World.grownBy.refl _ _) 3 _) _) _) hgr
      have hE' : ExprV (fun g => w.heap.size + 2 ≤ g) w1 (R { p with depth := d + 1 }).1 (.agg #[.int .i64 xk, .int .i64 xa, .int .i64 xv, .slice xA xn xc]) := ExprV.mono (by simp) _ _ hE
      have HX := Lib.hid hX; have HY := Lib.hid hY; have HP1 := Lib.hid hP1; have HE := Lib.hid hE'
      clear hX hY hP1 hE hE' c0 c1 c2 c3 c4 c5 f3
      go_wp2_with fail
      exact door (g := w.heap.size + 1) (c := w.heap.size) (q := (R { p with depth := d + 1 }).2) rfl rfl (HY.out.put4 _ _ _ _) (by omega) (ExprV.mono (by intro g _ hg; omega) _ _ (HE.out.put4 (by omega) _ _ _ _)) hlt (grown_fresh4 hG (by omega) _ _ _ _) (HP1.out.put4 (by omega) _ _ _ _)
        ((cell_put4 (by simp) _ _ _ _).trans b0) (by rw [HD.out]; omega) (by rw [HD.out]; omega)
    · have hw : within R p = (Tree.zero, { ({ p with depth := d + 1 } : PS) with depth := ({ p with depth := d + 1 } : PS).depth - 1 }) := by
        unfold within
        have : ¬ 30 < d + 1 := by omega
        simp [hpd, this, he]
      have he3 : ((p.e : Int) != 0) = true := by rw [bne_iff_ne]; omega
      rw [hw]
      have HP := Lib.hid hP
      clear hw hR hdep hP
      go_enter_defers Try.func63, Try.ntmps63
      go_wp2_with fail
      exact door (g := w.heap.size + 1) (c := w.heap.size) (q := ({ p with depth := d + 1 } : PS)) rfl rfl (by have := Blk.new1 (w.setCell ⟨b, 3, none⟩ (.int .i64 ((d : Int) + 1))) (.cells #[.pointer (some ⟨b, 0, none⟩)] 58) 36 zeroExpr; simpa using this) (by omega) (ExprV.zero _ _) hlt
        (grown_alloc (grown_alloc (grown_at (World.grownBy.refl _ _) 3 _) _) _) (((HP.out.deeper (d + 1) _ (by omega)).keep (below1 _ _)).keep (below1 _ _))
        (by have := ((Blk.new (w.setCell ⟨b, 3, none⟩ (.int .i64 ((d : Int) + 1))) 58 #[.pointer (some ⟨b, 0, none⟩)]).alloc (.cells zeroExpr 36)).cell 0; simpa using this) (by simp) (by simp; omega)
end Go.Proofs.Ytmjpecjciibngaa
