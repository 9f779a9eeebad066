/- The reference's Func. The reference's Vars. Vars: the variables that a formula names. -/
import Derived.Test.YtmjpecjciibngaaRef23d
import Derived.Test.YtmjpecjciibngaaRef3f
namespace Go.Proofs.Ytmjpecjciibngaa
open Go.RowKit
set_option linter.unusedVariables false

abbrev RefSays (t : Tree) (w : World) (e : Ending) (w' : World) : Prop := e = .returned (tabV (tb t)) ∧ Below w.heap.size w w'

set_option maxRecDepth 100000 in
set_option maxHeartbeats 4000000 in
theorem refunc_any (ok : Nat → Prop) : ∀ (d : Nat) (t : Tree) (x : Value) (w : World), htT t ≤ d → allP t = true → ExprV ok w t x → Calls Try.prog 22 #[x] w (RefSays t w)
  | 0, .node _ _ _ ks, x, w, hd, _, _ => absurd hd (by unfold htT; omega)
  | d + 1, .node k a v ks, x, w, hd, hp, hE => by
    have IH := Lib.hid (refunc_any ok d)
    have hdk : htL ks ≤ d := by unfold htT at hd; omega
    unfold allP at hp
    rw [Bool.and_eq_true] at hp
    obtain ⟨hpl, hpk⟩ := hp
    have hk3 := plainB_le hpl
    unfold ExprV at hE
    obtain ⟨A, c, rfl, hK⟩ := hE
    generalize hn : ks.length = n at *
    have HPk := Lib.hid hpk; have HPl := Lib.hid hpl; have HK := Lib.hid hK; have Hn := Lib.hid hn; have Hdk := Lib.hid hdk
    clear hpk hpl hK hn hdk hd
    go_enter Try.func22, Try.ntmps22
    go_wp2_with fail
    go_loopw [4] (fun i wr => ∃ m : Nat, m ≤ n ∧ i = .int .i64 m ∧ Below w.heap.size w wr ∧ w.heap.size + 1 + 1 < wr.heap.size ∧ Blk wr w.heap.size 36 #[.int .i64 k, .int .i64 a, .int .i64 v, .slice A n c] ∧ Blk wr (w.heap.size + 1) 29 zeroTab ∧ Blk wr (w.heap.size + 1 + 1) 67 (trio (firstF m (tbs ks) 0) (firstF m (tbs ks) 1) (firstF m (tbs ks) 2))) (fun i _ => n - (intOf i).toNat)
    case atStart =>
      refine ⟨0, by omega, rfl, below3 _ _ _ _, by simp, ((Blk.new w _ _).alloc _).alloc _, (Blk.new1 w _ _ _).alloc _, ?_⟩
      have := Blk.new2 w (.cells #[.int .i64 k, .int .i64 a, .int .i64 v, .slice A n c] 36) (.cells zeroTab 29) 67 (trio noF noF noF)
      simp only [trio, wd_false] at this
      simp only [firstF, Nat.not_lt_zero, if_false, trio, wd_false]
      exact this
    case round =>
      obtain ⟨m, hm, rfl, hb, hsz, hX, hZ, hT⟩ := hrel
      have y3 : wr.cell? ⟨w.heap.size, 3, none⟩ = some (.slice A n c) := hX.cell 3
      by_cases hlt : m < n
      · obtain ⟨t', ht'⟩ : ∃ t', ks[m]? = some t' := ⟨ks[m]'(by have := Hn.out; omega), List.getElem?_eq_getElem _⟩
        obtain ⟨g, o, k', a', v', A', n', c', rfl, hg, q0, q1, q2, q3, hE'⟩ := KidsV.get _ _ _ _ HK.out ht'
        have hgl := World.block_lt_of_cell? _ _ q0
        simp only at hgl
        replace q0 := (hb.cell (p := ⟨g, o + m * 4, none⟩) hgl).trans q0
        replace q1 := (hb.cell (p := ⟨g, o + m * 4 + 1, none⟩) hgl).trans q1
        replace q2 := (hb.cell (p := ⟨g, o + m * 4 + 2, none⟩) hgl).trans q2
        replace q3 := (hb.cell (p := ⟨g, o + m * 4 + 3, none⟩) hgl).trans q3
        have HE' := Lib.hid hE'; have HX := Lib.hid hX; have HZ := Lib.hid hZ; have HT := Lib.hid hT; have HT' := Lib.hid ht'
        have hm0 : (0 : Int) ≤ (m : Int) := by omega
        have hmn : (m : Int) < (n : Int) := by omega
        have hm33 : (m : Int) < 3 := by omega
        clear hE' hX hZ hT ht'
        go_wp2_with fail
        refine (IH.out t' _ _ (Nat.le_trans (htL_get ks m t' HT'.out) Hdk.out) (allPL_get ks m t' HPk.out HT'.out) (HE'.out.keep (hb.mono (Nat.le_refl _)))).mono ?_
        rintro e w1 ⟨rfl, hb1⟩
        have hT1 := HT.out.keep hb1
        have hX1 := HX.out.keep hb1
        have hZ1 := HZ.out.keep hb1
        have hB1 := hb.step hb1
        have hs1 := hb1.size
        have hm3 : m = 0 ∨ m = 1 ∨ m = 2 := by omega
        obtain ⟨u0, c0⟩ : ∃ u, w1.cell? ⟨w.heap.size + 1 + 1, m * 4, none⟩ = some u := by rcases hm3 with rfl | rfl | rfl <;> exact ⟨_, hT1.cell _⟩
        obtain ⟨u1, c1⟩ : ∃ u, w1.cell? ⟨w.heap.size + 1 + 1, m * 4 + 1, none⟩ = some u := by rcases hm3 with rfl | rfl | rfl <;> exact ⟨_, hT1.cell _⟩
        obtain ⟨u2, c2⟩ : ∃ u, w1.cell? ⟨w.heap.size + 1 + 1, m * 4 + 2, none⟩ = some u := by rcases hm3 with rfl | rfl | rfl <;> exact ⟨_, hT1.cell _⟩
        obtain ⟨u3, c3⟩ : ∃ u, w1.cell? ⟨w.heap.size + 1 + 1, m * 4 + 3, none⟩ = some u := by rcases hm3 with rfl | rfl | rfl <;> exact ⟨_, hT1.cell _⟩
        have f0 := hT1.free (m * 4)
        have f1 := hT1.free (m * 4 + 1)
        have f2 := hT1.free (m * 4 + 2)
        have f3 := hT1.free (m * 4 + 3)
        have HT1 := Lib.hid hT1; have HX1 := Lib.hid hX1; have HZ1 := Lib.hid hZ1; have HB1 := Lib.hid hB1; have HM3 := Lib.hid hm3
        have hm3' : (m : Int) < 3 := by omega
        clear hT1 hX1 hZ1 hB1 hb1 q0 q1 q2 q3 HT HX HZ hm3
        unfold tabV tabCells
        go_wp2_with fail
        go_roundw
        case rel =>
          have e1 : firstF (m + 1) (tbs ks) m = tb t' := by unfold firstF; rw [if_pos (by omega), nth_tbs ks m t' HT'.out]
          have e2 : ∀ j, j ≠ m → firstF (m + 1) (tbs ks) j = firstF m (tbs ks) j := by
            intro j hj
            unfold firstF
            by_cases h : j < m
            · rw [if_pos h, if_pos (by omega)]
            · rw [if_neg h, if_neg (by omega)]
          refine ⟨m + 1, by omega, by go_num, ((((HB1.out.setCell (p := ⟨w.heap.size + 1 + 1, m * 4, none⟩) (by simp; omega) _).setCell (p := ⟨w.heap.size + 1 + 1, m * 4 + 1, none⟩) (by simp; omega) _).setCell (p := ⟨w.heap.size + 1 + 1, m * 4 + 2, none⟩) (by simp; omega) _).setCell (p := ⟨w.heap.size + 1 + 1, m * 4 + 3, none⟩) (by simp; omega) _), by simp; omega, ?_, ?_, ?_⟩
          · exact (((HX1.out.far (p := ⟨w.heap.size + 1 + 1, m * 4, none⟩) (by simp; omega) _).far (p := ⟨w.heap.size + 1 + 1, m * 4 + 1, none⟩) (by simp; omega) _).far (p := ⟨w.heap.size + 1 + 1, m * 4 + 2, none⟩) (by simp; omega) _).far (p := ⟨w.heap.size + 1 + 1, m * 4 + 3, none⟩) (by simp; omega) _
          · exact (((HZ1.out.far (p := ⟨w.heap.size + 1 + 1, m * 4, none⟩) (by simp) _).far (p := ⟨w.heap.size + 1 + 1, m * 4 + 1, none⟩) (by simp) _).far (p := ⟨w.heap.size + 1 + 1, m * 4 + 2, none⟩) (by simp) _).far (p := ⟨w.heap.size + 1 + 1, m * 4 + 3, none⟩) (by simp) _
          · have hs := (((HT1.out.set (m * 4) (.int .u64 (wd (tb t') 0 : Nat))).set (m * 4 + 1) (.int .u64 (wd (tb t') 1 : Nat))).set (m * 4 + 2) (.int .u64 (wd (tb t') 2 : Nat))).set (m * 4 + 3) (.int .u64 (wd (tb t') 3 : Nat))
            rcases HM3.out with rfl | rfl | rfl
            · rw [e1, e2 1 (by omega), e2 2 (by omega)]; exact hs
            · rw [e1, e2 0 (by omega), e2 2 (by omega)]; exact hs
            · rw [e1, e2 0 (by omega), e2 1 (by omega)]; exact hs
        case measure => simp [intOf]; omega
      · obtain rfl : m = n := by omega
        have hl := tbs_len ks
        rw [Hn.out] at hl
        rw [← hl, firstF_len, firstF_len, firstF_len] at hT
        have hlt0 : decide ((m : Int) < (m : Int)) = false := by simp
        obtain ⟨⟨z0, z1, z2, z3⟩, _⟩ := Blk.four hZ
        have x0 : wr.cell? ⟨w.heap.size, 0, none⟩ = some (.int .i64 k) := hX.cell 0
        have x2 : wr.cell? ⟨w.heap.size, 2, none⟩ = some (.int .i64 v) := hX.cell 2
        have HX := Lib.hid hX; have HZ := Lib.hid hZ; have HT := Lib.hid hT; have HL := Lib.hid hl
        have hpl := HPl.out
        unfold plainB at hpl
        simp only [decide_eq_true_eq] at hpl
        obtain ⟨hk1, hk11, hkn, hv0, hvt⟩ := hpl
        obtain ⟨u, rfl⟩ : ∃ u : Nat, v = u := ⟨v.toNat, by omega⟩
        have hkk : k = 1 ∨ k = 2 ∨ k = 3 ∨ k = 9 ∨ k = 10 ∨ k = 11 ∨ (4 ≤ k ∧ k ≤ 8) := by omega
        clear hX hZ hT hl hlt hkn HPl
        rcases hkk with rfl | rfl | rfl | rfl | rfl | rfl | ⟨hk4, hk8⟩
        · have hu : u < 8 := by simp only [topOf] at hvt; simp at hvt; omega
          have hfin : tb (.node 1 a u ks) = fun x => x.testBit u := by unfold tb nodeF; simp
          have HFin := Lib.hid hfin; clear hfin hvt
          go_wp2_with fail
          refine (rvar_any u hu _).mono ?_
          rintro e w1 ⟨rfl, hbq⟩
          have R4 := HZ.out.keep hbq
          obtain ⟨⟨c0, c1, c2, c3⟩, f0, f1, f2, f3⟩ := R4.four
          have HR := Lib.hid R4; clear R4
          unfold tabV tabCells
          go_wp2_with fail
          exact ret_tab rfl _ _ rfl rfl (HR.out.put4 _ _ _ _) ⟨by rw [HFin.out], (hb.step hbq).put4 (by omega) _ _ _ _⟩
        · have hfin : tb (.node 2 a u ks) = fun x => ((u : Int) == 1) := by unfold tb nodeF; funext x; simp; rfl
          have HFin := Lib.hid hfin; clear hfin hvt
          go_wp2_with fail
          refine (rconst_any _ _).mono ?_
          rintro e w1 ⟨rfl, hbq⟩
          have R4 := HZ.out.keep hbq
          obtain ⟨⟨c0, c1, c2, c3⟩, f0, f1, f2, f3⟩ := R4.four
          have HR := Lib.hid R4; clear R4
          unfold tabV tabCells
          go_wp2_with fail
          exact ret_tab rfl _ _ rfl rfl (HR.out.put4 _ _ _ _) ⟨by rw [HFin.out], (hb.step hbq).put4 (by omega) _ _ _ _⟩
        · have hfin : tb (.node 3 a u ks) = fun x => !nth (tbs ks) 0 x := by unfold tb nodeF; simp
          have HFin := Lib.hid hfin; clear hfin hvt
          obtain ⟨⟨d0, d1, d2, d3⟩, _, _⟩ := HT.out.trio
          generalize nth (tbs ks) 0 = F0 at *
          go_wp2_with fail
          refine (rnot_any F0 _).mono ?_
          rintro e w1 ⟨rfl, hbq⟩
          have R4 := HZ.out.keep hbq
          obtain ⟨⟨c0, c1, c2, c3⟩, f0, f1, f2, f3⟩ := R4.four
          have HR := Lib.hid R4; clear R4
          unfold tabV tabCells
          go_wp2_with fail
          exact ret_tab rfl _ _ rfl rfl (HR.out.put4 _ _ _ _) ⟨by rw [HFin.out], (hb.step hbq).put4 (by omega) _ _ _ _⟩
        · have hfin : tb (.node 9 a u ks) = fun x => (nth (tbs ks) 0 x && nth (tbs ks) 1 x) || (!nth (tbs ks) 0 x && nth (tbs ks) 2 x) := by unfold tb nodeF; simp
          have HFin := Lib.hid hfin; clear hfin hvt
          obtain ⟨⟨d0, d1, d2, d3⟩, ⟨d4, d5, d6, d7⟩, d8, d9, d10, d11⟩ := HT.out.trio
          generalize nth (tbs ks) 0 = F0 at *
          generalize nth (tbs ks) 1 = F1 at *
          generalize nth (tbs ks) 2 = F2 at *
          go_wp2_with fail
          refine (rite_any F0 F1 F2 _).mono ?_
          rintro e w1 ⟨rfl, hbq⟩
          have R4 := HZ.out.keep hbq
          obtain ⟨⟨c0, c1, c2, c3⟩, f0, f1, f2, f3⟩ := R4.four
          have HR := Lib.hid R4; clear R4
          unfold tabV tabCells
          go_wp2_with fail
          exact ret_tab rfl _ _ rfl rfl (HR.out.put4 _ _ _ _) ⟨by rw [HFin.out], (hb.step hbq).put4 (by omega) _ _ _ _⟩
        · have hu : u < 8 := by simp only [topOf] at hvt; simp at hvt; omega
          have hfin : tb (.node 10 a u ks) = halvesTo and (2 ^ u) (nth (tbs ks) 0) 8 := by unfold tb nodeF; simp
          have HFin := Lib.hid hfin; clear hfin hvt
          obtain ⟨⟨d0, d1, d2, d3⟩, _, _⟩ := HT.out.trio
          generalize nth (tbs ks) 0 = F0 at *
          have hshl : IntKind.u8.wrap ((2 : Int) ^ u) = ((2 ^ u : Nat) : Int) := wrap_pow u hu
          have HPw := Lib.hid (show ((2 : Int) ^ u) = ((2 ^ u : Nat) : Int) by simp)
          have hmk : 2 ^ u < 256 := Nat.lt_of_lt_of_le (Nat.pow_lt_pow_right (by omega) hu) (by omega)
          go_wp2_with fail
          rw [HPw.out]
          refine (rforall_any F0 (2 ^ u) hmk _).mono ?_
          rintro e w1 ⟨rfl, hbq⟩
          have R4 := HZ.out.keep hbq
          obtain ⟨⟨c0, c1, c2, c3⟩, f0, f1, f2, f3⟩ := R4.four
          have HR := Lib.hid R4; clear R4
          unfold tabV tabCells
          go_wp2_with fail
          exact ret_tab rfl _ _ rfl rfl (HR.out.put4 _ _ _ _) ⟨by rw [HFin.out], (hb.step hbq).put4 (by omega) _ _ _ _⟩
        · have hu : u < 8 := by simp only [topOf] at hvt; simp at hvt; omega
          have hfin : tb (.node 11 a u ks) = halvesTo or (2 ^ u) (nth (tbs ks) 0) 8 := by unfold tb nodeF; simp
          have HFin := Lib.hid hfin; clear hfin hvt
          obtain ⟨⟨d0, d1, d2, d3⟩, _, _⟩ := HT.out.trio
          generalize nth (tbs ks) 0 = F0 at *
          have hshl : IntKind.u8.wrap ((2 : Int) ^ u) = ((2 ^ u : Nat) : Int) := wrap_pow u hu
          have HPw := Lib.hid (show ((2 : Int) ^ u) = ((2 ^ u : Nat) : Int) by simp)
          have hmk : 2 ^ u < 256 := Nat.lt_of_lt_of_le (Nat.pow_lt_pow_right (by omega) hu) (by omega)
          go_wp2_with fail
          rw [HPw.out]
          refine (rexists_any F0 (2 ^ u) hmk _).mono ?_
          rintro e w1 ⟨rfl, hbq⟩
          have R4 := HZ.out.keep hbq
          obtain ⟨⟨c0, c1, c2, c3⟩, f0, f1, f2, f3⟩ := R4.four
          have HR := Lib.hid R4; clear R4
          unfold tabV tabCells
          go_wp2_with fail
          exact ret_tab rfl _ _ rfl rfl (HR.out.put4 _ _ _ _) ⟨by rw [HFin.out], (hb.step hbq).put4 (by omega) _ _ _ _⟩
        · have hfin : tb (.node k a u ks) = binF k (nth (tbs ks) 0) (nth (tbs ks) 1) := by
            unfold tb nodeF
            rw [if_neg (by omega), if_neg (by omega), if_neg (by omega), if_neg (by omega), if_neg (by omega), if_neg (by omega)]
          have HFin := Lib.hid hfin; clear hfin hvt
          obtain ⟨⟨d0, d1, d2, d3⟩, ⟨d4, d5, d6, d7⟩, _⟩ := HT.out.trio
          generalize nth (tbs ks) 0 = F0 at *
          generalize nth (tbs ks) 1 = F1 at *
          have hkk : k = 4 ∨ k = 5 ∨ k = 6 ∨ k = 7 ∨ k = 8 := by omega
          clear hk1 hk11 hk4 hk8
          rcases hkk with rfl | rfl | rfl | rfl | rfl
          · go_wp2_with fail
            refine (rand_any F0 F1 _).mono ?_
            rintro e w1 ⟨rfl, hbq⟩
            have R4 := HZ.out.keep hbq
            obtain ⟨⟨c0, c1, c2, c3⟩, f0, f1, f2, f3⟩ := R4.four
            have HR := Lib.hid R4; clear R4
            unfold tabV tabCells
            go_wp2_with fail
            exact ret_tab rfl _ _ rfl rfl (HR.out.put4 _ _ _ _) ⟨by rw [HFin.out]; rfl, (hb.step hbq).put4 (by omega) _ _ _ _⟩
          · go_wp2_with fail
            refine (ror_any F0 F1 _).mono ?_
            rintro e w1 ⟨rfl, hbq⟩
            have R4 := HZ.out.keep hbq
            obtain ⟨⟨c0, c1, c2, c3⟩, f0, f1, f2, f3⟩ := R4.four
            have HR := Lib.hid R4; clear R4
            unfold tabV tabCells
            go_wp2_with fail
            exact ret_tab rfl _ _ rfl rfl (HR.out.put4 _ _ _ _) ⟨by rw [HFin.out]; rfl, (hb.step hbq).put4 (by omega) _ _ _ _⟩
          · go_wp2_with fail
            refine (rxor_any F0 F1 _).mono ?_
            rintro e w1 ⟨rfl, hbq⟩
            have R4 := HZ.out.keep hbq
            obtain ⟨⟨c0, c1, c2, c3⟩, f0, f1, f2, f3⟩ := R4.four
            have HR := Lib.hid R4; clear R4
            unfold tabV tabCells
            go_wp2_with fail
            exact ret_tab rfl _ _ rfl rfl (HR.out.put4 _ _ _ _) ⟨by rw [HFin.out]; rfl, (hb.step hbq).put4 (by omega) _ _ _ _⟩
          · go_wp2_with fail
            go_region_held3 (fun w' => ∀ p : Addr, (p.block = w.heap.size ∨ p.block = w.heap.size + 1 + 1) → w'.cell? p = wr.cell? p)
              (first
                | with_reducible exact fun p hp => hb1.of_drew.cell (by omega)
                | with_reducible exact fun p hp => hbq.cell (by omega)
                | (intro p hp; rw [cell_put4 (by omega)]; exact hbq.cell (by omega))
                | exact fun _ _ => rfl)
              (first
                | (go_at_call 26; (with_reducible refine (rnot_any F0 _).mono ?_); rintro e w1 ⟨rfl, hb1⟩)
                | (go_at_call 25; (with_reducible refine (ror_any (fun x => !F0 x) F1 _).mono ?_); rintro e w2 ⟨rfl, hb2⟩;
                   have hbq := hb1.of_drew.step hb2; have R4 := HZ.out.keep hbq; obtain ⟨⟨c0, c1, c2, c3⟩, f0, f1, f2, f3⟩ := R4.four; have HR := Lib.hid R4; clear R4; unfold tabV tabCells))
            go_wp2_with fail
            exact ret_tab rfl _ _ rfl rfl (HR.out.put4 _ _ _ _) ⟨by rw [HFin.out]; rfl, (hb.step hbq).put4 (by omega) _ _ _ _⟩
          · go_wp2_with fail
            refine (rxor_any F0 F1 _).mono ?_
            rintro e w1 ⟨rfl, hb1⟩
            go_wp2_with fail
            refine (rnot_any (fun x => F0 x ^^ F1 x) _).mono ?_
            rintro e w2 ⟨rfl, hb2⟩
            have hbq := hb1.step hb2
            have R4 := HZ.out.keep hbq
            obtain ⟨⟨c0, c1, c2, c3⟩, f0, f1, f2, f3⟩ := R4.four
            have HR := Lib.hid R4; clear R4
            unfold tabV tabCells
            go_wp2_with fail
            exact ret_tab rfl _ _ rfl rfl (HR.out.put4 _ _ _ _) ⟨by rw [HFin.out]; rfl, (hb.step hbq).put4 (by omega) _ _ _ _⟩
end Go.Proofs.Ytmjpecjciibngaa
namespace Go.Proofs.Ytmjpecjciibngaa
open Go.RowKit
set_option linter.unusedVariables false

def named (k : Int) : Bool := k == 1 || (k == 10 || k == 11)
mutual
/-- The variables that a formula names, as bits. -/
def varsT : Tree → Nat | .node k _ v ks => (if named k then 2 ^ (v.toNat % 8) else 0) ||| varsL ks
def varsL : List Tree → Nat | [] => 0 | t :: ts => varsT t ||| varsL ts
end
theorem pow8 (u : Nat) : 2 ^ (u % 8) < 2 ^ 8 := Nat.pow_lt_pow_right (by omega) (by omega)
mutual
theorem varsT_lt : ∀ t : Tree, varsT t < 2 ^ 8
  | .node k a v ks => by
    unfold varsT
    refine Nat.or_lt_two_pow ?_ (varsL_lt ks)
    split
    · exact pow8 _
    · decide
theorem varsL_lt : ∀ l : List Tree, varsL l < 2 ^ 8
  | [] => by unfold varsL; decide
  | t :: ts => by unfold varsL; exact Nat.or_lt_two_pow (varsT_lt t) (varsL_lt ts)
end
theorem varsL_app : ∀ a b : List Tree, varsL (a ++ b) = varsL a ||| varsL b
  | [], b => by simp [varsL]
  | t :: a, b => by simp only [List.cons_append, varsL, varsL_app a b, Nat.or_assoc]
theorem varsL_take (l : List Tree) (k : Nat) (t : Tree) (h : l[k]? = some t) : varsL (l.take (k + 1)) = varsL (l.take k) ||| varsT t := by
  rw [List.take_add_one, h, varsL_app]
  simp [varsL]
theorem and7 (u : Nat) (hu : u < 8) : bits .and .i64 (u : Int) 7 = (u : Int) := by
  have : u = 0 ∨ u = 1 ∨ u = 2 ∨ u = 3 ∨ u = 4 ∨ u = 5 ∨ u = 6 ∨ u = 7 := by omega
  rcases this with rfl | rfl | rfl | rfl | rfl | rfl | rfl | rfl <;> decide
def VarC (t : Tree) : Prop := ∀ (ok : Nat → Prop) (x : Value) (w : World), ExprV ok w t x → Calls Try.prog 24 #[x] w fun e w' => e = .returned (.int .u8 (varsT t : Nat)) ∧ Below w.heap.size w w'
theorem VarC.call {t : Tree} (h : VarC t) (ok : Nat → Prop) (x : Value) (w : World) (hE : ExprV ok w t x) : Calls Try.prog 24 #[x] w fun e w' => e = .returned (.int .u8 (varsT t : Nat)) ∧ Below w.heap.size w w' := h ok x w hE
set_option maxRecDepth 100000 in
set_option maxHeartbeats 4000000 in
theorem refvars_node (k a : Int) (u : Nat) (hu : u < 8) (ks : List Tree) (hl : ks.length ≤ 3) (IH : ∀ t ∈ ks, VarC t) : VarC (.node k a (u : Int) ks) := by
  intro ok x w hE
  unfold ExprV at hE
  obtain ⟨A, c, rfl, hK⟩ := hE
  obtain ⟨n, hn⟩ : ∃ n, ks.length = n := ⟨_, rfl⟩
  rw [hn] at hl ⊢
  obtain ⟨W, hW⟩ : ∃ W : World, W = w.alloc (.cells #[.int .i64 k, .int .i64 a, .int .i64 (u : Int), .slice A n c] 36) := ⟨_, rfl⟩
  have HX := Lib.hid (show Blk W w.heap.size 36 #[.int .i64 k, .int .i64 a, .int .i64 (u : Int), .slice A n c] from hW ▸ Blk.new w _ _)
  have HB := Lib.hid (show Below w.heap.size w W from hW ▸ below1 w _)
  have HK := Lib.hid (show KidsV ok W ks A 0 from KidsV.of_cells (fun p _ _ hc => (HB.out.cell (World.block_lt_of_cell? _ _ hc)).trans hc) ks A 0 hK)
  have Hn := Lib.hid hn; have HI := Lib.hid IH; have HWw := Lib.hid hW
  have h7 := and7 u hu
  have hsh := wrap_pow u hu
  obtain ⟨b0, hb0⟩ : ∃ b0 : Nat, b0 = if named k then 2 ^ (u % 8) else 0 := ⟨_, rfl⟩
  have hb0l : b0 < 2 ^ 8 := by rw [hb0]; split; exact pow8 u; decide
  have hvt : varsT (.node k a (u : Int) ks) = b0 ||| varsL ks := by rw [hb0]; simp [varsT]
  have HV := Lib.hid hvt; have HB0 := Lib.hid hb0
  clear hn hK hW IH hvt hb0
  have main : ∀ bb : Bool, named k = bb → Calls Try.prog 24 #[.agg #[.int .i64 k, .int .i64 a, .int .i64 (u : Int), .slice A n c]] w fun e w' => e = .returned (.int .u8 (varsT (.node k a (u : Int) ks) : Nat)) ∧ Below w.heap.size w w' := by
    intro bb hbb
    have HBb := Lib.hid hbb
    unfold named at hbb
    cases h1 : (k == 1) <;> cases h10 : (k == 10) <;> cases h11 : (k == 11) <;> cases bb
    all_goals rw [h1, h10, h11] at hbb
    any_goals (first | exact absurd hbb (by decide) | fail)
    all_goals
      have hbi := HB0.out
      rw [HBb.out, Nat.mod_eq_of_lt hu] at hbi
      simp only [if_true, if_false, Bool.false_eq_true] at hbi
      have HBi := Lib.hid hbi
      clear hbi hbb
      go_enter Try.func24, Try.ntmps24
      go_wp2_with fail
      rw [← HWw.out]
      go_loopw [4, 3] (fun i m wr => ∃ j : Nat, j ≤ n ∧ i = .int .i64 j ∧ m = .int .u8 (b0 ||| varsL (ks.take j) : Nat) ∧ Below W.heap.size W wr) (fun i _ _ => n - (intOf i).toNat)
      case atStart => exact ⟨0, by omega, rfl, by simp only [List.take_zero, varsL, Nat.or_zero]; rw [HBi.out]; try simp, Below.refl _ _⟩
      case round =>
        obtain ⟨j, hj, rfl, rfl, hb⟩ := hrel
        obtain ⟨⟨x0, x1, x2, x3⟩, _⟩ := (HX.out.keep hb).four
        obtain ⟨q, hq⟩ : ∃ q : Nat, q = b0 ||| varsL (ks.take j) := ⟨_, rfl⟩
        have hql : q < 2 ^ 8 := by rw [hq]; exact Nat.or_lt_two_pow hb0l (varsL_lt _)
        rw [← hq]
        have HQ := Lib.hid hq
        clear hq
        by_cases hjn : j < n
        · obtain ⟨t, ht⟩ : ∃ t, ks[j]? = some t := ⟨ks[j]'(by have := Hn.out; omega), List.getElem?_eq_getElem _⟩
          obtain ⟨g, o, xk, xa, xv, xA, xn, xc, rfl, hg, q0, q1, q2, q3, hEt⟩ := KidsV.get _ _ _ _ HK.out ht
          have hgl := World.block_lt_of_cell? _ _ q0
          simp only at hgl
          replace q0 := (hb.cell (p := ⟨g, o + j * 4, none⟩) hgl).trans q0
          replace q1 := (hb.cell (p := ⟨g, o + j * 4 + 1, none⟩) hgl).trans q1
          replace q2 := (hb.cell (p := ⟨g, o + j * 4 + 2, none⟩) hgl).trans q2
          replace q3 := (hb.cell (p := ⟨g, o + j * 4 + 3, none⟩) hgl).trans q3
          have HEt := Lib.hid (hEt.keep hb)
          have HC := Lib.hid (HI.out t (List.mem_of_getElem? ht))
          have hor : bits .or .u8 (q : Int) (varsT t : Nat) = ((q ||| varsT t : Nat) : Int) := bits_or_u8 q _ hql (varsT_lt t)
          have HO := Lib.hid hor
          have HT := Lib.hid (varsL_take ks j t ht)
          have j0 : (0 : Int) ≤ (j : Int) := by omega
          have j1 : (j : Int) < (n : Int) := by omega
          clear hEt ht hor hsh h7
          go_wp2_with fail
          refine (HC.out.call ok _ _ HEt.out).mono ?_
          rintro e wc ⟨rfl, hbc⟩
          go_wp2_with fail
          go_roundw
          case measure => simp [intOf]; omega
          case rel =>
            refine ⟨j + 1, by omega, by go_num, ?_, hb.step hbc⟩
            rw [HO.out, HT.out, HQ.out, Nat.or_assoc]
        · obtain rfl : j = n := by omega
          have hfin : q = varsT (.node k a (u : Int) ks) := by
            rw [HQ.out, HV.out, List.take_of_length_le (by have := Hn.out; omega)]
          have HF := Lib.hid hfin
          have j1 : ¬ (j : Int) < (j : Int) := by omega
          clear hfin hsh h7
          go_wp2_with fail
          go_ret
          exact ⟨ret_int (by rw [HF.out]), HB.out.step hb⟩
  exact main _ rfl
mutual
theorem refvars_tree : ∀ t : Tree, allP t = true → VarC t
  | .node k a v ks, h => by
    unfold allP at h
    rw [Bool.and_eq_true] at h
    have h3 := plainB_le h.1
    have hp := h.1
    unfold plainB at hp
    simp only [decide_eq_true_eq] at hp
    have hv7 : v ≤ 7 := by
      have : topOf k ≤ 7 := by unfold topOf; (repeat' split) <;> omega
      omega
    rw [show v = (v.toNat : Int) by omega]
    exact refvars_node k a v.toNat (by omega) ks h3 (refvars_trees ks h.2)
theorem refvars_trees : ∀ l : List Tree, allPL l = true → ∀ t ∈ l, VarC t
  | [], _, t, ht => absurd ht (by simp)
  | u :: us, h, t, ht => by
    unfold allPL at h
    rw [Bool.and_eq_true] at h
    rcases List.mem_cons.1 ht with e | ht
    · rw [e]; exact refvars_tree u h.1
    · exact refvars_trees us h.2 t ht
end
end Go.Proofs.Ytmjpecjciibngaa
namespace Go.Proofs.Ytmjpecjciibngaa
open Go.RowKit
set_option linter.unusedVariables false

theorem run_append_any {P : Program} {w : World} (t ty : TypeId) (base : Nat) (e : TypeId) (i : TypeInfo) (z : Value) (size bytes : Nat) (ht : P.underlying t = some (.slice e)) (hi : P.info? e = some i) (hz : i.zero = some z)
    (hsize : i.size = size) (hby : i.bytes = bytes) (hzs : z.cells.size = size) (hsz : 0 < size) (v : Value) (n : Nat) (xs : List Value) (hown : w.ownsRow base e size v n xs)
    (A : Option Addr) (m c : Nat) (news : List Value) (hl : news.length = m * size) (hA : A = none → m = 0) (hnews : ∀ ad, A = some ad → ∀ j u, news[j]? = some u → w.cell? (ad.add j) = some u) (h1 : ∀ u ∈ news, u.oneCell' = true)
    (h63 : n + m ≤ maxLen) (hbytes : (n + m) * bytes ≤ 140737488355328) (hbase : base ≤ w.heap.size) :
    ∃ v' w', (Builtin.append_ #[t, t] ty #[v, .slice A m c]).run P w = .ok v' w' ∧ (w'.ownsRow base e size v' (n + m) (xs ++ news) ∧ w.grownBy w' v.ownBlock ∧ (v'.ownBlock = v.ownBlock ∨ v'.ownBlock = some w.heap.size)) := by
  cases A with
  | some ad =>
    obtain ⟨v', w', hr, a, b, _, d⟩ := run_append_own_at (P := P) w base t ty e i z size bytes ht hi hz hsize hby hzs hsz v n xs hown ad m c news hl (hnews ad rfl) h1 h63 hbytes hbase
    exact ⟨v', w', hr, a, b, d⟩
  | none =>
    obtain rfl := hA rfl
    obtain rfl : news = [] := by simpa using hl
    exact ⟨v, w, run_append_nil (P := P) (w := w) base t ty e i size ht hi v n xs c hown, by simpa using hown, ⟨rfl, rfl, rfl, Nat.le_refl _, fun _ _ _ => rfl⟩, .inl rfl⟩

theorem varsT_kids (t : Tree) (k a v : Int) (A : Option Addr) (n c : Nat) (ok : Nat → Prop) (w : World) (h : ExprV ok w t (.agg #[.int .i64 k, .int .i64 a, .int .i64 v, .slice A n c])) : varsT t = (if named k then 2 ^ (v.toNat % 8) else 0) ||| varsL t.kids ∧ sizeT t = 1 + sizeL t.kids ∧ allP t = (plainB k v n && allPL t.kids) := by
  cases t
  unfold ExprV at h
  obtain ⟨A', c', e, hk⟩ := h
  injection e with e
  simp only [Array.mk.injEq, List.cons.injEq, Value.int.injEq, Value.slice.injEq, and_true, true_and] at e
  obtain ⟨rfl, rfl, rfl, rfl, rfl, rfl⟩ := e
  exact ⟨by simp [varsT, Tree.kids], by simp only [sizeT, Tree.kids]; omega, by simp only [allP, Tree.kids]⟩
theorem sizeL_pos (t : Tree) (l : List Tree) : 1 ≤ sizeL (l ++ [t]) := by
  rw [sizeL_app]
  have := sizeT_pos t
  simp only [sizeL]
  omega
set_option maxRecDepth 100000 in
set_option maxHeartbeats 4000000 in
theorem evars_any (t : Tree) (x : Value) (w : World) (hp : allP t = true) (hs : sizeT t ≤ 4000) (hE : ExprV (fun g => g < w.heap.size) w t x) :
    Calls Try.prog 23 #[x] w fun e w' => e = .returned (.int .u8 (varsT t : Nat)) ∧ Below w.heap.size w w' := by
  obtain ⟨i0, hi0, hz0, hz1, hz2⟩ := info_parts exprInfo
  have hi0' := Lib.hid hi0; have hz0' := Lib.hid hz0; have hz1' := Lib.hid hz1; have hz2' := Lib.hid hz2
  clear hi0 hz0 hz1 hz2
  obtain ⟨xk, xa, xv, xA, xn, xc, rfl⟩ := hE.four
  have HE := Lib.hid hE; clear hE
  go_enter Try.func23, Try.ntmps23
  go_wp2_with fail
  go_loopw [4, 5, 3] (fun sv i mm wr => ∃ (n : Nat) (l : List Tree) (xs : List Value) (q : Nat), n + sizeL l = sizeT t ∧ i = .int .i64 n ∧ mm = .int .u8 q ∧ q < 2 ^ 8 ∧ q ||| varsL l = varsT t ∧ allPL l = true ∧ l.length ≤ 1 + 3 * n ∧ wr.ownsRow w.heap.size 36 4 sv l.length xs ∧ KidsX (fun g => g < w.heap.size) wr l xs ∧ Below w.heap.size w wr) (fun _ i _ _ => 4001 - (intOf i).toNat)
  case atStart =>
    refine ⟨0, [t], [.int .i64 xk, .int .i64 xa, .int .i64 xv, .slice xA xn xc], 0, by simp [sizeL], rfl, rfl, by decide, by simp [varsL], by simp [allPL, hp], by simp, ?_, ⟨xk, xa, xv, xA, xn, xc, [], rfl, ?_, rfl⟩, below2 _ _ _⟩
    · have := World.ownsRow_lit (base := w.heap.size) (e := 36) (size := 4) (w.alloc (.cells #[.int .i64 xk, .int .i64 xa, .int .i64 xv, .slice xA xn xc] 36)) #[.int .i64 xk, .int .i64 xa, .int .i64 xv, .slice xA xn xc] 1 (by simp) (by unfold maxLen; omega) rfl
      simpa using this
    · exact (HE.out.alloc _).alloc _
  case round =>
    obtain ⟨n, l, xs, q, hn, rfl, rfl, hq, hgo, hal, hl, hown, hX, hb⟩ := hrel
    obtain ⟨sv, rfl⟩ : ∃ v : Value, v = u4 := ⟨_, rfl⟩
    rcases nil_or_snoc l with rfl | ⟨l', t', rfl⟩
    · have hfin : q = varsT t := by rw [← hgo]; simp [varsL]
      have HFin := Lib.hid hfin
      have hsv : ∃ A c, sv = .slice A 0 c := by
        rcases hown.2 with ⟨e, _⟩ | ⟨g, cap, cur, e, _⟩
        · exact ⟨_, _, e⟩
        · exact ⟨_, _, e⟩
      obtain ⟨A, c, rfl⟩ := hsv
      clear hgo hfin hown hX hn hl hal
      go_wp2_with fail
      go_ret
      exact ⟨ret_int (by rw [HFin.out]), hb⟩
    · have hlen : (l' ++ [t']).length = l'.length + 1 := by simp
      rw [hlen] at hown hl
      obtain ⟨ys, yk, ya, yv, yA, yn, yc, hxs, hX', hE'⟩ := KidsX.split l' xs hX
      have hlx := KidsX.len l' ys hX'
      obtain ⟨g, cap, hsv, hgb, hglt⟩ := hown.form (by omega)
      subst hsv
      have hcell := hown.cells (g := g) rfl
      rw [hxs] at hcell
      have q0 : wr.cell? ⟨g, l'.length * 4, none⟩ = some (.int .i64 yk) := by have := hcell (l'.length * 4) (.int .i64 yk) (by rw [List.getElem?_append_right (by omega)]; simp [hlx]); rwa [add0] at this
      have q1 : wr.cell? ⟨g, l'.length * 4 + 1, none⟩ = some (.int .i64 ya) := by have := hcell (l'.length * 4 + 1) (.int .i64 ya) (by rw [List.getElem?_append_right (by omega)]; simp [hlx]); rwa [add0] at this
      have q2 : wr.cell? ⟨g, l'.length * 4 + 2, none⟩ = some (.int .i64 yv) := by have := hcell (l'.length * 4 + 2) (.int .i64 yv) (by rw [List.getElem?_append_right (by omega)]; simp [hlx]); rwa [add0] at this
      have q3 : wr.cell? ⟨g, l'.length * 4 + 3, none⟩ = some (.slice yA yn yc) := by have := hcell (l'.length * 4 + 3) (.slice yA yn yc) (by rw [List.getElem?_append_right (by omega)]; simp [hlx]); rwa [add0] at this
      have hn4 : n < 4000 := by have := sizeL_pos t' l'; omega
      have hat : allP t' = true := allPL_all _ hal t' (by simp)
      obtain ⟨hvk, hsk, hak⟩ := varsT_kids t' yk ya yv yA yn yc _ _ hE'
      rw [hak, Bool.and_eq_true] at hat
      obtain ⟨hpb, hpk⟩ := hat
      have hyn3 : yn ≤ 3 := plainB_le hpb
      have hv : 0 ≤ yv ∧ yv ≤ 7 := by
        unfold plainB at hpb
        simp only [decide_eq_true_eq] at hpb
        have : topOf yk ≤ 7 := by unfold topOf; (repeat' split) <;> omega
        omega
      obtain ⟨u, rfl⟩ : ∃ u : Nat, yv = (u : Int) := ⟨yv.toNat, by omega⟩
      have hu : u < 8 := by omega
      obtain ⟨_, hkn, hkv⟩ := hE'.plain
      have hal2 : allPL (l' ++ t'.kids) = true := allPL_mem _ fun y hy => by
        rcases List.mem_append.1 hy with hy | hy
        · exact allPL_all _ hal y (by simp [hy])
        · exact allPL_all _ hpk y hy
      obtain ⟨b0, hb0⟩ : ∃ b0 : Nat, b0 = if named yk then 2 ^ (u % 8) else 0 := ⟨_, rfl⟩
      have hb0l : b0 < 2 ^ 8 := by rw [hb0]; split; exact pow8 u; decide
      have hgo2 : (q ||| b0) ||| varsL (l' ++ t'.kids) = varsT t := by
        rw [← hgo, varsL_app, varsL_app, hb0]
        simp only [varsL, hvk, Nat.or_zero, Int.toNat_natCast]
        ac_rfl
      have hn2 : n + 1 + sizeL (l' ++ t'.kids) = sizeT t := by
        rw [← hn, sizeL_app, sizeL_app]
        simp only [sizeL, hsk]
        omega
      obtain ⟨hc1, hc2⟩ := own_cap hown
      have HO := Lib.hid (own_cut (m := l'.length) (by rw [hxs] at hown; exact hown) (by omega) hlx)
      generalize hm : l'.length = m at *
      obtain ⟨zs, hXz, hzc⟩ := KidsV.toX _ _ _ hkv
      have hzl := KidsX.len _ _ hXz
      have hkz : t'.kids = [] ↔ yn = 0 := by rw [hkn]; exact List.length_eq_zero_iff.symm
      have hzn : yA = none → yn = 0 := by
        intro hA
        by_cases hke : t'.kids = []
        · exact hkz.1 hke
        · obtain ⟨ad', e', _⟩ := hzc hke
          rw [hA] at e'; cases e'
      have hzc1 : ∀ ad, yA = some ad → ∀ j u, zs[j]? = some u → wr.cell? (ad.add j) = some u := by
        intro ad had j u hj
        by_cases hke : t'.kids = []
        · rw [hke] at hXz
          obtain rfl : zs = [] := hXz
          simp at hj
        · obtain ⟨ad', e', _, hc⟩ := hzc hke
          rw [had] at e'; cases e'
          have := hc j u hj
          simpa only [Nat.zero_mul, Nat.zero_add] using this
      have HX' := Lib.hid hX'; have HGo := Lib.hid hgo2; have HN := Lib.hid hn2; have HAl := Lib.hid hal2; have HKn := Lib.hid hkn; have Hm := Lib.hid hm
      have HXz := Lib.hid hXz; have HZl := Lib.hid hzl; have HZn := Lib.hid hzn; have HZc := Lib.hid hzc1; have HZo := Lib.hid (KidsX.one _ _ hXz); have HB0 := Lib.hid hb0
      have hm1 : m + 1 ≤ cap := by omega
      have hbg := hb.size
      have m0 : (0 : Int) ≤ (m : Int) := by omega
      have m1 : (m : Int) ≤ (cap : Int) := by omega
      have hor : bits .or .u8 (q : Int) ((2 ^ u : Nat) : Int) = ((q ||| 2 ^ u : Nat) : Int) := bits_or_u8 q _ hq (by have := pow8 u; rw [Nat.mod_eq_of_lt hu] at this; exact this)
      have hsh := wrap_pow u hu
      have HOr := Lib.hid hor
      have hwm : IntKind.i64.wrap ((m : Nat) : Int) = (m : Int) := IntWalk.i64_in _ (by omega)
      have hnl : (n : Int) < 4000 := by omega
      have u0 : (0 : Int) ≤ (u : Int) := by omega
      have u8 : (u : Int) < 8 := by omega
      clear hX' hE' hgo hgo2 hn hn2 hal hal2 hown hcell hX hlen hvk hsk hak hpb hpk hkn hkv hxs hlx hm hXz hzc hzl hkz hzn hzc1 hb0 hor hv hp hs
      go_wp2_with fail
      obtain ⟨W, hW⟩ : ∃ W : World, W = wr.alloc (.cells #[.int .i64 yk, .int .i64 ya, .int .i64 (u : Int), .slice yA yn yc] 36) := ⟨_, rfl⟩
      have HT := Lib.hid (show Blk W wr.heap.size 36 #[.int .i64 yk, .int .i64 ya, .int .i64 (u : Int), .slice yA yn yc] from hW ▸ Blk.new wr _ _)
      have HBW := Lib.hid (show Below wr.heap.size wr W from hW ▸ below1 wr _)
      have hszW : wr.heap.size < W.heap.size := by rw [hW]; simp
      have HOW := Lib.hid (World.ownsRow.kept HO.out (grown_below HBW.out none) (by simp [Value.ownBlock]))
      have HZW := Lib.hid (show ∀ ad, yA = some ad → ∀ j u, zs[j]? = some u → W.drew.cell? (ad.add j) = some u from fun ad had j u hj => (HBW.out.cell (World.block_lt_of_cell? _ _ (HZc.out ad had j u hj))).trans (HZc.out ad had j u hj))
      have HXW := Lib.hid (KidsX.imp (w' := W) (fun t x h => h.keep HBW.out) _ _ HX'.out)
      have HZX := Lib.hid (KidsX.imp (w' := W) (fun t x h => h.keep HBW.out) _ _ HXz.out)
      obtain ⟨⟨x0, x1, x2, x3⟩, _⟩ := HT.out.four
      rw [← hW]
      clear hW
      go_region_held3 (fun w' => w'.cell? ⟨wr.heap.size, 3, none⟩ = some (.slice yA yn yc))
        (first
          | exact x3
          | exact hgr2.cell (a := ⟨wr.heap.size, 3, none⟩) x3 (by simp [Value.ownBlock]; omega))
        (first
          | (refine step_run (by rfl) _ _ _ _ (by rfl) _ _ (by rfl) (by rfl) (run_append_any 34 _ w.heap.size 36 i0 (.agg zeroExpr) 4 48 Try.underlying34 hi0'.out hz0'.out hz1'.out hz2'.out rfl (by omega) (.slice (some ⟨g, 0, none⟩) m cap) m ys HOW.out.drew yA yn yc zs (by rw [HZl.out, HKn.out]) HZn.out HZW.out HZo.out (by unfold maxLen; omega) (by omega) (by simp; omega)) ?_; rintro v2 w2 ⟨hO2, hgr2, hat2⟩))
      have hll : (l' ++ t'.kids).length = m + yn := by rw [List.length_append, Hm.out, HKn.out]
      have hO5 : w2.ownsRow w.heap.size 36 4 v2 (l' ++ t'.kids).length (ys ++ zs) := by rw [hll]; exact hO2
      have hgr3 : W.grownBy w2 (some g) := ⟨hgr2.os, hgr2.tape, hgr2.output, hgr2.size, hgr2.block⟩
      have hX5 := KidsX.imp (ok' := fun g => g < w.heap.size) (w' := w2) (fun t x h => ExprV.grown h hgr3 (by intro g' hg' hk; have hk' : g' < w.heap.size := hk; have he : g = g' := Option.some.inj hg'; omega)) _ _ (KidsX.append _ _ _ _ HXW.out HZX.out)
      have hBW2 : Below w.heap.size w W := hb.trans (HBW.out.mono hb.size)
      have hB5 : Below w.heap.size w w2 := hBW2.trans ⟨hgr3.os, hgr3.tape, hgr3.output, hgr3.size, fun i hi => hgr3.block i (by omega) (fun he => by have he' : i = g := Option.some.inj he; omega)⟩
      have hm2 : (l' ++ t'.kids).length ≤ 1 + 3 * (n + 1) := by rw [hll]; omega
      have z0 := hgr3.cell (a := ⟨wr.heap.size, 0, none⟩) x0 (by simp; omega)
      have z2 := hgr3.cell (a := ⟨wr.heap.size, 2, none⟩) x2 (by simp; omega)
      have HO5 := Lib.hid hO5; have HX5 := Lib.hid hX5; have HM2 := Lib.hid hm2; have HB5 := Lib.hid hB5
      clear hO5 hX5 hO2 hll hm2 hgr2 hgr3 hat2 hBW2 hB5 x0 x1 x2 x3 q0 q1 q2 q3
      cases h1 : (yk == 1) <;> cases h10 : (yk == 10) <;> cases h11 : (yk == 11)
      all_goals
        have hbi := HB0.out
        unfold named at hbi
        rw [h1, h10, h11, Nat.mod_eq_of_lt hu] at hbi
        simp only [Bool.or_true, Bool.or_false, Bool.or_self, if_true, if_false, Bool.false_eq_true] at hbi
        have HBi := Lib.hid hbi
        clear hbi
        go_wp2_with fail
        go_roundw
        case measure => simp [intOf]; omega
        case rel =>
          refine ⟨n + 1, l' ++ t'.kids, ys ++ zs, q ||| b0, HN.out, by go_num, ?_, Nat.or_lt_two_pow hq hb0l, HGo.out, HAl.out, HM2.out, HO5.out, HX5.out, HB5.out⟩
          rw [HBi.out]
          first
          | (rw [Nat.or_zero])
          | (rw [← HOr.out]; simp)
end Go.Proofs.Ytmjpecjciibngaa
