/- Is, for formulas of whatever many parts. -/
import Derived.Test.YtmjpecjciibngaaBGoo
import Derived.Test.YtmjpecjciibngaaBPutb
namespace Go.Proofs.Ytmjpecjciibngaa
open Go.RowKit
set_option linter.unusedVariables false

mutual
/-- No list of parts is too long to be read. -/
def broadT : Tree → Bool | .node _ _ _ ks => decide (ks.length ≤ 140737488351232) && broadL ks
def broadL : List Tree → Bool | [] => true | t :: ts => broadT t && broadL ts
end
theorem broadL_mem : ∀ (l : List Tree), broadL l = true → ∀ t ∈ l, broadT t = true
  | [], _, t, h => absurd h (by simp)
  | u :: us, h, t, hm => by
    unfold broadL at h
    simp only [Bool.and_eq_true] at h
    rcases List.mem_cons.1 hm with rfl | hm
    · exact h.1
    · exact broadL_mem us h.2 t hm
theorem broad_kids {t : Tree} (h : broadT t = true) : t.kids.length ≤ 140737488351232 ∧ ∀ u ∈ t.kids, broadT u = true := by
  cases t
  unfold broadT at h
  simp only [Bool.and_eq_true, decide_eq_true_eq] at h
  exact ⟨h.1, broadL_mem _ h.2⟩
theorem len_le_size : ∀ l : List Tree, l.length ≤ sizeL l
  | [] => by simp [sizeL]
  | .node k a v ks :: ts => by
    have := len_le_size ts
    simp only [sizeL, sizeT, List.length_cons]; omega
mutual
theorem broad_of : ∀ t : Tree, sizeT t ≤ 4001 → broadT t = true
  | .node k a v ks, h => by
    simp only [sizeT] at h
    have := len_le_size ks
    unfold broadT
    rw [broadL_of ks (by omega), Bool.and_true]
    simp; omega
theorem broadL_of : ∀ l : List Tree, sizeL l ≤ 4001 → broadL l = true
  | [], _ => by unfold broadL; rfl
  | t :: ts, h => by
    simp only [sizeL] at h
    unfold broadL
    rw [broad_of t (by omega), broadL_of ts (by omega)]; rfl
end
mutual
theorem wide_of_broad : ∀ t : Tree, broadT t = true → wideT t = true
  | .node k a v ks, h => by
    unfold broadT at h
    rw [Bool.and_eq_true] at h
    unfold wideT
    rw [Bool.and_eq_true]
    have h1 := h.1
    simp only [decide_eq_true_eq] at h1 ⊢
    exact ⟨by omega, wideL_of_broad ks h.2⟩
theorem wideL_of_broad : ∀ l : List Tree, broadL l = true → wideL l = true
  | [], _ => by unfold wideL; rfl
  | t :: ts, h => by
    unfold broadL at h
    rw [Bool.and_eq_true] at h
    unfold wideL
    rw [Bool.and_eq_true]
    exact ⟨wide_of_broad t h.1, wideL_of_broad ts h.2⟩
end

set_option maxRecDepth 100000 in
set_option maxHeartbeats 4000000 in
theorem is_broad (t : Tree) (x : Value) (w : World) (hsm : broadT t = true) (hE : ExprV (fun g => g < w.heap.size) w t x) :
    Calls Try.prog 15 #[x] w fun e w' => e = .returned (.bool (isT t)) ∧ Below w.heap.size w w' := by
  obtain ⟨i0, hi0, hz0, hz1, hz2⟩ := info_parts exprInfo
  have hi0' := Lib.hid hi0; have hz0' := Lib.hid hz0; have hz1' := Lib.hid hz1; have hz2' := Lib.hid hz2
  clear hi0 hz0 hz1 hz2
  obtain ⟨xk, xa, xv, xA, xn, xc, rfl⟩ := hE.four
  have HE := Lib.hid hE; clear hE
  go_enter Try.func15, Try.ntmps15
  go_wp2_with fail
  go_loopw [3, 4] (fun sv i wr => ∃ (n : Nat) (l : List Tree) (xs : List Value), n ≤ 4000 ∧ i = .int .i64 n ∧ l.length ≤ 1 + 3 * n ∧ (∀ u ∈ l, broadT u = true) ∧ wr.ownsRow w.heap.size 36 4 sv l.length xs ∧ KidsX (fun g => g < w.heap.size) wr l xs ∧ Below w.heap.size w wr ∧ isGo (4000 - n) l = isT t) (fun _ i _ => 4001 - (intOf i).toNat)
  case atStart =>
    refine ⟨0, [t], [.int .i64 xk, .int .i64 xa, .int .i64 xv, .slice xA xn xc], by omega, rfl, by simp, by simpa using hsm, ?_, ⟨xk, xa, xv, xA, xn, xc, [], rfl, ?_, rfl⟩, below2 _ _ _, rfl⟩
    · have := World.ownsRow_lit (base := w.heap.size) (e := 36) (size := 4) (w.alloc (.cells #[.int .i64 xk, .int .i64 xa, .int .i64 xv, .slice xA xn xc] 36)) #[.int .i64 xk, .int .i64 xa, .int .i64 xv, .slice xA xn xc] 1 (by simp) (by unfold maxLen; omega) rfl
      simpa using this
    · exact (HE.out.alloc _).alloc _
  case round =>
    obtain ⟨n, l, xs, hn, rfl, hl, hsl, hown, hX, hb, hgo⟩ := hrel
    obtain ⟨sv, rfl⟩ : ∃ v : Value, v = u3 := ⟨_, rfl⟩
    rcases nil_or_snoc l with rfl | ⟨l', t', rfl⟩
    · have hgo' : isT t = true := by rw [← hgo, isGo_nil]
      have HGo := Lib.hid hgo'
      have hsv : ∃ A c, sv = .slice A 0 c := by
        rcases hown.2 with ⟨e, _⟩ | ⟨g, cap, cur, e, _⟩
        · exact ⟨_, _, e⟩
        · exact ⟨_, _, e⟩
      obtain ⟨A, c, rfl⟩ := hsv
      clear hgo hgo' hown hX
      go_wp2_with fail
      go_ret
      exact ⟨ret_bool HGo.out.symm, hb⟩
    · have hlen : (l' ++ [t']).length = l'.length + 1 := by simp
      rw [hlen] at hown hl
      obtain ⟨ys, yk, ya, yv, yA, yn, yc, hxs, hX', hE'⟩ := KidsX.split l' xs hX
      have hlx := KidsX.len l' ys hX'
      obtain ⟨g, cap, hsv, hgb, hglt⟩ := hown.form (by omega)
      subst hsv
      have hcell := hown.cells (g := g) rfl
      rw [hxs] at hcell
      have q0 : wr.cell? ⟨g, l'.length * 4, none⟩ = some (.int .i64 yk) := by have := hcell (l'.length * 4) (.int .i64 yk) (by rw [List.getElem?_append_right (by omega)]; simp [hlx]); rwa [add0] at this
      have q1 : wr.cell? ⟨g, l'.length * 4 + 1, none⟩ = some (.int .i64 ya) := by have := hcell (l'.length * 4 + 1) (.int .i64 ya) (by rw [List.getElem?_append_right (by omega)]; simp [hlx]); rwa [add0] at this
      have q2 : wr.cell? ⟨g, l'.length * 4 + 2, none⟩ = some (.int .i64 yv) := by have := hcell (l'.length * 4 + 2) (.int .i64 yv) (by rw [List.getElem?_append_right (by omega)]; simp [hlx]); rwa [add0] at this
      have q3 : wr.cell? ⟨g, l'.length * 4 + 3, none⟩ = some (.slice yA yn yc) := by have := hcell (l'.length * 4 + 3) (.slice yA yn yc) (by rw [List.getElem?_append_right (by omega)]; simp [hlx]); rwa [add0] at this
      have hst' : broadT t' = true := hsl t' (by simp)
      obtain ⟨hk3, hsk⟩ := broad_kids hst'
      have hsl2 : ∀ u ∈ l' ++ t'.kids, broadT u = true := by
        intro u hu
        rcases List.mem_append.1 hu with hu | hu
        · exact hsl u (by simp [hu])
        · exact hsk u hu
      obtain ⟨hc1, hc2⟩ := own_cap hown
      have HO := Lib.hid (own_cut (m := l'.length) (by rw [hxs] at hown; exact hown) (by omega) hlx)
      generalize hm : l'.length = m at *
      have HX' := Lib.hid hX'; have HE' := Lib.hid hE'; have HSl := Lib.hid hsl2; have HGo := Lib.hid hgo
      have Hlx := Lib.hid hlx; have Hxs := Lib.hid hxs; have Hm := Lib.hid hm
      clear hX' hE' hown hgo hlx hxs hm hcell hX hlen hsl hst' hsk hsl2
      have hci : (m : Int) ≤ (cap : Int) := by omega
      have hci2 : m ≤ cap := by omega
      have hci3 : ¬ cap < m := by omega
      have hm0 : (0 : Int) ≤ (m : Int) := by omega
      obtain ⟨hpl, hkn, hkv⟩ := HE'.out.plain
      have hbg := hb.size
      by_cases hn4 : n = 4000
      · subst hn4
        have hfalse : isT t = false := by rw [← HGo.out]; exact isGo_zero _ _
        have HF := Lib.hid hfalse
        clear hfalse hpl hkn hkv
        go_wp2_with fail
        go_ret
        exact ⟨ret_bool HF.out.symm, hb.alloc (by omega) _⟩
      · have hn5 : n < 4000 := by omega
        have hgo1 : isT t = (plainT t' && isGo (4000 - (n + 1)) (l' ++ t'.kids)) := by
          rw [← HGo.out, show 4000 - n = 4000 - (n + 1) + 1 by omega, isGo_snoc]
        have hd4 : decide ((4000 : Int) ≤ (n : Int)) = false := by simp; omega
        have HGo1 := Lib.hid hgo1; have HPl := Lib.hid hpl; have HKn := Lib.hid hkn; have HKv := Lib.hid hkv
        clear hgo1 hpl hkn hkv hn4 HGo
        go_wp2_with fail
        refine (plain_any yk ya yv yA yn yc _ (by have := HKn.out; omega)).mono ?_
        rintro e w1 ⟨rfl, hB1⟩
        have hO1 := (HO.out.alloc (.cells #[.int .i64 yk, .int .i64 ya, .int .i64 yv, .slice yA yn yc] 36)).kept (grown_below hB1 none) (.inr (by simp [Value.ownBlock]))
        have hX1 := KidsX.imp (w' := w1) (fun t x h => (ExprV.alloc h _).keep hB1) _ _ HX'.out
        obtain ⟨zs, hXz, hzc⟩ := KidsV.toX _ _ _ HKv.out
        have hz1 := KidsX.imp (w' := w1) (fun t x h => (ExprV.alloc h (.cells #[.int .i64 yk, .int .i64 ya, .int .i64 yv, .slice yA yn yc] 36)).keep hB1) _ _ hXz
        have hzl := KidsX.len _ _ hXz
        have hBB : Below w.heap.size w w1 := (hb.alloc (by omega) _).trans (hB1.mono (by simp; omega))
        have hT := Blk.keep (Blk.new wr 36 #[.int .i64 yk, .int .i64 ya, .int .i64 yv, .slice yA yn yc]) hB1
        have r0 := hT.cell 0
        have r1 := hT.cell 1
        have r2 := hT.cell 2
        have r3 := hT.cell 3
        have hsz := hB1.size
        simp only [World.size_alloc] at hsz
        have hkz : t'.kids = [] ↔ yn = 0 := by rw [HKn.out]; exact List.length_eq_zero_iff.symm
        have hzc1 : ∀ ad, yA = some ad → ∀ j u, zs[j]? = some u → w1.cell? (ad.add j) = some u := by
          intro ad had j u hj
          by_cases hke : t'.kids = []
          · rw [hke] at hXz
            obtain rfl : zs = [] := hXz
            simp at hj
          · obtain ⟨ad', e', _, hc⟩ := hzc hke
            rw [had] at e'; cases e'
            have := hc j u hj
            have hlt := World.block_lt_of_cell? _ _ this
            simp only [Nat.zero_mul, Nat.zero_add] at this hlt
            exact (hB1.cell (by simp; omega)).trans ((Below.cell (below1 wr _) hlt).trans this)
        have hzn : yA = none → yn = 0 := by
          intro hA
          by_cases hke : t'.kids = []
          · exact hkz.1 hke
          · obtain ⟨ad', e', _⟩ := hzc hke
            rw [hA] at e'; cases e'
        have HO1 := Lib.hid hO1; have HX1 := Lib.hid hX1; have HZ1 := Lib.hid hz1; have HZl := Lib.hid hzl; have HZc := Lib.hid hzc1; have HZn := Lib.hid hzn
        have HZo := Lib.hid (KidsX.one _ _ hXz)
        clear hO1 hX1 hXz hzc hz1 hzl hT hkz hzc1 hzn hB1 HX' HO q0 q1 q2 q3
        by_cases hpb : plainB yk yv yn = true
        · rw [hpb]
          have hgo2 : isGo (4000 - (n + 1)) (l' ++ t'.kids) = isT t := by rw [HGo1.out, HPl.out, hpb]; rfl
          have hyn3 : yn ≤ 3 := plainB_le hpb
          have HGo2 := Lib.hid hgo2; clear hgo2 hpb
          go_wp2_with (at_builtin; refine wpList_append_any rfl (.tmp 31) (.tmp 33) _ rfl w.heap.size 36 i0 (.agg zeroExpr) 4 48 Try.underlying34 hi0'.out hz0'.out hz1'.out hz2'.out rfl (by omega) _ m ys rfl HO1.out yA yn yc zs rfl (by rw [HZl.out, HKn.out]) HZn.out HZc.out HZo.out (by have := HKn.out; unfold maxLen; omega) (by have := HKn.out; omega) (by omega) ?_; intro v' w4 hO4 hgr4 hat)
          have hll : (l' ++ t'.kids).length = m + yn := by rw [List.length_append, Hm.out, HKn.out]
          have hO5 : w4.ownsRow w.heap.size 36 4 v' (l' ++ t'.kids).length (ys ++ zs) := by rw [hll]; exact hO4
          have hX5 := KidsX.imp (ok' := fun g => g < w.heap.size) (w' := w4) (fun t x h => ExprV.grown h hgr4 (by intro g' hg' hk; have hk' : g' < w.heap.size := hk; have he : g = g' := Option.some.inj hg'; omega)) _ _ (KidsX.append _ _ _ _ HX1.out HZ1.out)
          have hB5 : Below w.heap.size w w4 := hBB.trans ⟨hgr4.os, hgr4.tape, hgr4.output, by have := hgr4.size; omega, fun i hi => hgr4.block i (by omega) (fun he => by have he' : i = g := Option.some.inj he; omega)⟩
          have hm2 : (l' ++ t'.kids).length ≤ 1 + 3 * (n + 1) := by omega
          have HO5 := Lib.hid hO5; have HX5 := Lib.hid hX5; have HM2 := Lib.hid hm2
          clear hO5 hX5 hO4 hll hm2
          go_roundw
          case rel =>
            exact ⟨n + 1, l' ++ t'.kids, ys ++ zs, by omega, by go_num, HM2.out, HSl.out, HO5.out, HX5.out, hB5, HGo2.out⟩
          case measure => simp [intOf]; omega
        · have hpf : plainB yk yv yn = false := by simpa using hpb
          rw [hpf]
          have hfalse : isT t = false := by rw [HGo1.out, HPl.out, hpf]; rfl
          have HF := Lib.hid hfalse
          clear hfalse hpf hpb
          go_wp2_with fail
          go_ret
          exact ⟨ret_bool HF.out.symm, hBB⟩
theorem is_broad_ok {ok : Nat → Prop} (t : Tree) (x : Value) (w : World) (hsm : broadT t = true) (hE : ExprV ok w t x) :
    Calls Try.prog 15 #[x] w fun e w' => e = .returned (.bool (isT t)) ∧ Below w.heap.size w w' :=
  is_broad t x w hsm (ExprV.mono (fun g h _ => h) _ _ hE)

set_option maxRecDepth 100000 in
set_option maxHeartbeats 1000000 in
theorem func_broad {ok : Nat → Prop} (t : Tree) (x : Value) (w : World) (hsm : broadT t = true) (hE : ExprV ok w t x) :
    Calls Try.prog 14 #[x] w fun e w' => e = .returned (tabV (funcF t)) ∧ Below w.heap.size w w' := by
  obtain ⟨xk, xa, xv, xA, xn, xc, rfl⟩ := hE.four
  have HE := Lib.hid hE; clear hE
  go_enter Try.func14, Try.ntmps14
  go_wp2_with fail
  refine (is_broad_ok t _ _ hsm ((HE.out.alloc _).alloc _)).mono ?_
  rintro e w1 ⟨rfl, hb1⟩
  have HX := Lib.hid (((Blk.new w 36 #[.int .i64 xk, .int .i64 xa, .int .i64 xv, .slice xA xn xc]).alloc (.cells zeroTab 29)).keep hb1)
  have HZ := Lib.hid ((Blk.new1 w (.cells #[.int .i64 xk, .int .i64 xa, .int .i64 xv, .slice xA xn xc] 36) 29 zeroTab).keep hb1)
  have HE1 := Lib.hid (((HE.out.alloc (.cells #[.int .i64 xk, .int .i64 xa, .int .i64 xv, .slice xA xn xc] 36)).alloc (.cells zeroTab 29)).keep hb1)
  have hB1 := (below2 w _ _).step hb1
  have hsz := hb1.size
  simp only [World.size_alloc] at hsz
  clear hb1
  cases hI : isT t
  · have hfin : funcF t = noF := by unfold funcF; rw [hI]; rfl
    have HFin := Lib.hid hfin
    obtain ⟨⟨c0, c1, c2, c3⟩, f0, f1, f2, f3⟩ := HZ.out.four
    clear hfin hI
    go_wp2_with fail
    have := HZ.out.put4 (.int .u64 0) (.int .u64 0) (.int .u64 0) (.int .u64 0)
    refine ret_tab rfl _ noF rfl rfl (by simp only [tabCells, wd_false]; exact HZ.out.put4 _ _ _ _) ⟨by rw [HFin.out], hB1.put4 (by omega) _ _ _ _⟩
  · have hfin : funcF t = tb t := by unfold funcF; rw [hI]; rfl
    have HFin := Lib.hid hfin
    have hP := allP_of_isT hI
    obtain ⟨x0, x1, x2, x3⟩ := HX.out.four.1
    clear hfin hI
    go_wp2_with fail
    refine (table_any ok (htT t) t _ _ (Nat.le_refl _) hP HE1.out).mono ?_
    rintro e w2 ⟨rfl, hb2⟩
    have R4 := HZ.out.keep hb2
    obtain ⟨⟨c0, c1, c2, c3⟩, f0, f1, f2, f3⟩ := R4.four
    have HR := Lib.hid R4; clear R4
    unfold tabV tabCells
    go_wp2_with fail
    exact ret_tab rfl _ _ rfl rfl (HR.out.put4 _ _ _ _) ⟨by rw [HFin.out], (hB1.step hb2).put4 (by omega) _ _ _ _⟩

set_option maxRecDepth 100000 in
set_option maxHeartbeats 2000000 in
theorem print_broad {ok : Nat → Prop} (t : Tree) (x : Value) (w : World) (hsm : broadT t = true) (hl : isT t = true → (printT t).length ≤ 1000000) (hE : ExprV ok w t x) :
    Calls Try.prog 16 #[x] w fun e w' => e = .returned (.string (str (printS t))) ∧ Below w.heap.size w w' := by
  obtain ⟨xk, xa, xv, xA, xn, xc, rfl⟩ := hE.four
  have HE := Lib.hid (hE.alloc (.cells #[.int .i64 xk, .int .i64 xa, .int .i64 xv, .slice xA xn xc] 36)); have HS := Lib.hid hsm
  clear hE hsm
  cases hT : isT t
  · have hP : printS t = [] := by unfold printS; rw [hT]; rfl
    have HT := Lib.hid hT; have HP := Lib.hid hP
    clear hT hP
    go_enter Try.func16, Try.ntmps16
    go_wp2_with fail
    refine (is_broad_ok t _ _ HS.out HE.out).mono ?_
    rintro e w1 ⟨rfl, hb1⟩
    rw [HT.out]
    go_wp2_with fail
    go_ret
    rw [HP.out]
    exact ⟨rfl, (below1 _ _).step hb1⟩
  · have hl' := hl hT
    have hP : printS t = printT t := by unfold printS; rw [hT]; rfl
    have hA := allP_of_isT hT
    have HT := Lib.hid hT; have HP := Lib.hid hP; have HA := Lib.hid hA
    clear hT hP hA
    go_enter Try.func16, Try.ntmps16
    go_wp2_with fail
    refine (is_broad_ok t _ _ HS.out HE.out).mono ?_
    rintro e w1 ⟨rfl, hb1⟩
    rw [HT.out]
    have hX := (Blk.new w 36 #[.int .i64 xk, .int .i64 xa, .int .i64 xv, .slice xA xn xc]).keep hb1
    obtain ⟨⟨x0, x1, x2, x3⟩, _⟩ := hX.four
    have hB1 := (below1 w _).step hb1
    have HE1 : Hid (ExprV (fun g => g < w1.heap.size) w1 t (.agg #[.int .i64 xk, .int .i64 xa, .int .i64 xv, .slice xA xn xc])) := Lib.hid (ExprV.mono (fun g hg _ => hg) _ _ (HE.out.keep hb1))
    have HB1 := Lib.hid hB1
    clear hb1 hX hB1
    go_wp2_with fail
    refine ((put_tree t HA.out).call w1.heap.size (.slice none 0 0) [] _ w1 (OwnB.nil _ _) (Nat.le_refl _) (by simpa using hl') HE1.out).mono ?_
    rintro e w2 ⟨v', rfl, hP⟩
    have hk := hP.1.conv (printT_ne t)
    have hB2 : Below w1.heap.size w1 w2 := ⟨hP.2.1.os, hP.2.1.tape, hP.2.1.output, hP.2.1.size, fun i hi => hP.2.1.block i hi (by simp [Value.ownBlock])⟩
    have HQ := Lib.hid hP; clear hP
    go_wp2_with fail
    go_ret
    rw [HP.out]
    exact ⟨rfl, HB1.out.step hB2⟩
end Go.Proofs.Ytmjpecjciibngaa
