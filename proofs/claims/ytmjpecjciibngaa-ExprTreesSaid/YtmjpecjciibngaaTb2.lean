/- The table of a formula. -/
import Derived.Test.YtmjpecjciibngaaTb1
namespace Go.Proofs.Ytmjpecjciibngaa
open Go.RowKit
set_option linter.unusedVariables false

abbrev trio (f g h : Nat → Bool) : Array Value := #[.int .u64 (wd f 0 : Nat), .int .u64 (wd f 1 : Nat), .int .u64 (wd f 2 : Nat), .int .u64 (wd f 3 : Nat), .int .u64 (wd g 0 : Nat), .int .u64 (wd g 1 : Nat), .int .u64 (wd g 2 : Nat), .int .u64 (wd g 3 : Nat), .int .u64 (wd h 0 : Nat), .int .u64 (wd h 1 : Nat), .int .u64 (wd h 2 : Nat), .int .u64 (wd h 3 : Nat)]
/-- The tables of the first k parts. -/
def firstF (k : Nat) (l : List (Nat → Bool)) (j : Nat) : Nat → Bool := if j < k then nth l j else noF
theorem firstF_len (l : List (Nat → Bool)) (j : Nat) : firstF l.length l j = nth l j := by
  unfold firstF
  split
  · rfl
  · rw [nth_out l j (by omega)]
theorem wrap_pow (u : Nat) (hu : u < 8) : IntKind.u8.wrap ((2 : Int) ^ u) = ((2 ^ u : Nat) : Int) := by
  have : u = 0 ∨ u = 1 ∨ u = 2 ∨ u = 3 ∨ u = 4 ∨ u = 5 ∨ u = 6 ∨ u = 7 := by omega
  rcases this with rfl | rfl | rfl | rfl | rfl | rfl | rfl | rfl <;> rfl
theorem Blk.trio {w : World} {b : Nat} {T : TypeId} {f g h : Nat → Bool} (hB : Blk w b T (trio f g h)) :
    (w.cell? ⟨b, 0, none⟩ = some (.int .u64 (wd f 0 : Nat)) ∧ w.cell? ⟨b, 1, none⟩ = some (.int .u64 (wd f 1 : Nat)) ∧ w.cell? ⟨b, 2, none⟩ = some (.int .u64 (wd f 2 : Nat)) ∧ w.cell? ⟨b, 3, none⟩ = some (.int .u64 (wd f 3 : Nat))) ∧
    (w.cell? ⟨b, 4, none⟩ = some (.int .u64 (wd g 0 : Nat)) ∧ w.cell? ⟨b, 5, none⟩ = some (.int .u64 (wd g 1 : Nat)) ∧ w.cell? ⟨b, 6, none⟩ = some (.int .u64 (wd g 2 : Nat)) ∧ w.cell? ⟨b, 7, none⟩ = some (.int .u64 (wd g 3 : Nat))) ∧
    (w.cell? ⟨b, 8, none⟩ = some (.int .u64 (wd h 0 : Nat)) ∧ w.cell? ⟨b, 9, none⟩ = some (.int .u64 (wd h 1 : Nat)) ∧ w.cell? ⟨b, 10, none⟩ = some (.int .u64 (wd h 2 : Nat)) ∧ w.cell? ⟨b, 11, none⟩ = some (.int .u64 (wd h 3 : Nat))) :=
  ⟨⟨hB.cell 0, hB.cell 1, hB.cell 2, hB.cell 3⟩, ⟨hB.cell 4, hB.cell 5, hB.cell 6, hB.cell 7⟩, ⟨hB.cell 8, hB.cell 9, hB.cell 10, hB.cell 11⟩⟩
abbrev TableSays (t : Tree) (w : World) (e : Ending) (w' : World) : Prop := e = .returned (tabV (tb t)) ∧ Below w.heap.size w w'

set_option maxRecDepth 100000 in
set_option maxHeartbeats 4000000 in
theorem table_any (ok : Nat → Prop) : ∀ (d : Nat) (t : Tree) (x : Value) (w : World), htT t ≤ d → allP t = true → ExprV ok w t x → Calls Try.prog 33 #[x] w (TableSays t w)
  | 0, .node _ _ _ ks, x, w, hd, _, _ => absurd hd (by unfold htT; omega)
  | d + 1, .node k a v ks, x, w, hd, hp, hE => by
    have IH := Lib.hid (table_any ok d)
    have hdk : htL ks ≤ d := by unfold htT at hd; omega
    unfold allP at hp
    rw [Bool.and_eq_true] at hp
    obtain ⟨hpl, hpk⟩ := hp
    have hk3 := plainB_le hpl
    unfold ExprV at hE
    obtain ⟨A, c, rfl, hK⟩ := hE
    generalize hn : ks.length = n at *
    have HPk := Lib.hid hpk; have HPl := Lib.hid hpl; have HK := Lib.hid hK; have Hn := Lib.hid hn; have Hdk := Lib.hid hdk
    clear hpk hpl hK hn hdk hd
    go_enter Try.func33, Try.ntmps33
    go_wp2_with fail
    go_loopw [9] (fun i wr => ∃ m : Nat, m ≤ n ∧ i = .int .i64 m ∧ Below w.heap.size w wr ∧ w.heap.size + 1 + 1 < wr.heap.size ∧ Blk wr w.heap.size 36 #[.int .i64 k, .int .i64 a, .int .i64 v, .slice A n c] ∧ Blk wr (w.heap.size + 1) 29 zeroTab ∧ Blk wr (w.heap.size + 1 + 1) 67 (trio (firstF m (tbs ks) 0) (firstF m (tbs ks) 1) (firstF m (tbs ks) 2))) (fun i _ => n - (intOf i).toNat)
    case atStart =>
      refine ⟨0, by omega, rfl, below3 _ _ _ _, by simp, ((Blk.new w _ _).alloc _).alloc _, (Blk.new1 w _ _ _).alloc _, ?_⟩
      have := Blk.new2 w (.cells #[.int .i64 k, .int .i64 a, .int .i64 v, .slice A n c] 36) (.cells zeroTab 29) 67 (trio noF noF noF)
      simp only [trio, wd_false] at this
      simp only [firstF, Nat.not_lt_zero, if_false, trio, wd_false]
      exact this
    case round =>
      obtain ⟨m, hm, rfl, hb, hsz, hX, hZ, hT⟩ := hrel
      by_cases hlt : m < n
      · obtain ⟨t', ht'⟩ : ∃ t', ks[m]? = some t' := ⟨ks[m]'(by have := Hn.out; omega), List.getElem?_eq_getElem _⟩
        obtain ⟨g, o, k', a', v', A', n', c', rfl, hg, q0, q1, q2, q3, hE'⟩ := KidsV.get _ _ _ _ HK.out ht'
        have hgl := World.block_lt_of_cell? _ _ q0
        simp only at hgl
        replace q0 := (hb.cell (p := ⟨g, o + m * 4, none⟩) hgl).trans q0
        replace q1 := (hb.cell (p := ⟨g, o + m * 4 + 1, none⟩) hgl).trans q1
        replace q2 := (hb.cell (p := ⟨g, o + m * 4 + 2, none⟩) hgl).trans q2
        replace q3 := (hb.cell (p := ⟨g, o + m * 4 + 3, none⟩) hgl).trans q3
        have HE' := Lib.hid hE'; have HX := Lib.hid hX; have HZ := Lib.hid hZ; have HT := Lib.hid hT; have HT' := Lib.hid ht'
        have hm0 : (0 : Int) ≤ (m : Int) := by omega
        have hmn : (m : Int) < (n : Int) := by omega
        clear hE' hX hZ hT ht'
        go_wp2_with fail
        refine (IH.out t' _ _ (Nat.le_trans (htL_get ks m t' HT'.out) Hdk.out) (allPL_get ks m t' HPk.out HT'.out) (((HE'.out.keep (hb.mono (Nat.le_refl _))).alloc _))).mono ?_
        rintro e w1 ⟨rfl, hb1⟩
        have hT1 := (HT.out.alloc (.cells #[.int .i64 k', .int .i64 a', .int .i64 v', .slice A' n' c'] 36)).keep hb1
        have hX1 := (HX.out.alloc (.cells #[.int .i64 k', .int .i64 a', .int .i64 v', .slice A' n' c'] 36)).keep hb1
        have hZ1 := (HZ.out.alloc (.cells #[.int .i64 k', .int .i64 a', .int .i64 v', .slice A' n' c'] 36)).keep hb1
        have hB1 := (hb.alloc hb.size (.cells #[.int .i64 k', .int .i64 a', .int .i64 v', .slice A' n' c'] 36)).step hb1
        have hs1 := hb1.size
        simp only [World.size_alloc] at hs1
        have hm3 : m = 0 ∨ m = 1 ∨ m = 2 := by omega
        obtain ⟨u0, c0⟩ : ∃ u, w1.cell? ⟨w.heap.size + 1 + 1, m * 4, none⟩ = some u := by rcases hm3 with rfl | rfl | rfl <;> exact ⟨_, hT1.cell _⟩
        obtain ⟨u1, c1⟩ : ∃ u, w1.cell? ⟨w.heap.size + 1 + 1, m * 4 + 1, none⟩ = some u := by rcases hm3 with rfl | rfl | rfl <;> exact ⟨_, hT1.cell _⟩
        obtain ⟨u2, c2⟩ : ∃ u, w1.cell? ⟨w.heap.size + 1 + 1, m * 4 + 2, none⟩ = some u := by rcases hm3 with rfl | rfl | rfl <;> exact ⟨_, hT1.cell _⟩
        obtain ⟨u3, c3⟩ : ∃ u, w1.cell? ⟨w.heap.size + 1 + 1, m * 4 + 3, none⟩ = some u := by rcases hm3 with rfl | rfl | rfl <;> exact ⟨_, hT1.cell _⟩
        have f0 := hT1.free (m * 4)
        have f1 := hT1.free (m * 4 + 1)
        have f2 := hT1.free (m * 4 + 2)
        have f3 := hT1.free (m * 4 + 3)
        have HT1 := Lib.hid hT1; have HX1 := Lib.hid hX1; have HZ1 := Lib.hid hZ1; have HB1 := Lib.hid hB1; have HM3 := Lib.hid hm3
        have hm3' : (m : Int) < 3 := by omega
        clear hT1 hX1 hZ1 hB1 hb1 q0 q1 q2 q3 HT HX HZ hm3
        unfold tabV tabCells
        go_wp2_with fail
        go_roundw
        case rel =>
          have e1 : firstF (m + 1) (tbs ks) m = tb t' := by unfold firstF; rw [if_pos (by omega), nth_tbs ks m t' HT'.out]
          have e2 : ∀ j, j ≠ m → firstF (m + 1) (tbs ks) j = firstF m (tbs ks) j := by
            intro j hj
            unfold firstF
            by_cases h : j < m
            · rw [if_pos h, if_pos (by omega)]
            · rw [if_neg h, if_neg (by omega)]
          refine ⟨m + 1, by omega, by go_num, ((((HB1.out.setCell (p := ⟨w.heap.size + 1 + 1, m * 4, none⟩) (by simp; omega) _).setCell (p := ⟨w.heap.size + 1 + 1, m * 4 + 1, none⟩) (by simp; omega) _).setCell (p := ⟨w.heap.size + 1 + 1, m * 4 + 2, none⟩) (by simp; omega) _).setCell (p := ⟨w.heap.size + 1 + 1, m * 4 + 3, none⟩) (by simp; omega) _), by simp; omega, ?_, ?_, ?_⟩
          · exact (((HX1.out.far (p := ⟨w.heap.size + 1 + 1, m * 4, none⟩) (by simp; omega) _).far (p := ⟨w.heap.size + 1 + 1, m * 4 + 1, none⟩) (by simp; omega) _).far (p := ⟨w.heap.size + 1 + 1, m * 4 + 2, none⟩) (by simp; omega) _).far (p := ⟨w.heap.size + 1 + 1, m * 4 + 3, none⟩) (by simp; omega) _
          · exact (((HZ1.out.far (p := ⟨w.heap.size + 1 + 1, m * 4, none⟩) (by simp) _).far (p := ⟨w.heap.size + 1 + 1, m * 4 + 1, none⟩) (by simp) _).far (p := ⟨w.heap.size + 1 + 1, m * 4 + 2, none⟩) (by simp) _).far (p := ⟨w.heap.size + 1 + 1, m * 4 + 3, none⟩) (by simp) _
          · have hs := (((HT1.out.set (m * 4) (.int .u64 (wd (tb t') 0 : Nat))).set (m * 4 + 1) (.int .u64 (wd (tb t') 1 : Nat))).set (m * 4 + 2) (.int .u64 (wd (tb t') 2 : Nat))).set (m * 4 + 3) (.int .u64 (wd (tb t') 3 : Nat))
            rcases HM3.out with rfl | rfl | rfl
            · rw [e1, e2 1 (by omega), e2 2 (by omega)]; exact hs
            · rw [e1, e2 0 (by omega), e2 2 (by omega)]; exact hs
            · rw [e1, e2 0 (by omega), e2 1 (by omega)]; exact hs
        case measure => simp [intOf]; omega
      · obtain rfl : m = n := by omega
        have hl := tbs_len ks
        rw [Hn.out] at hl
        rw [← hl, firstF_len, firstF_len, firstF_len] at hT
        have hlt0 : decide ((m : Int) < (m : Int)) = false := by simp
        obtain ⟨⟨z0, z1, z2, z3⟩, y0, y1, y2, y3⟩ := Blk.four hZ
        have x0 : wr.cell? ⟨w.heap.size, 0, none⟩ = some (.int .i64 k) := hX.cell 0
        have x2 : wr.cell? ⟨w.heap.size, 2, none⟩ = some (.int .i64 v) := hX.cell 2
        have HX := Lib.hid hX; have HZ := Lib.hid hZ; have HT := Lib.hid hT; have HL := Lib.hid hl
        have hpl := HPl.out
        unfold plainB at hpl
        simp only [decide_eq_true_eq] at hpl
        obtain ⟨hk1, hk11, hkn, hv0, hvt⟩ := hpl
        obtain ⟨u, rfl⟩ : ∃ u : Nat, v = u := ⟨v.toNat, by omega⟩
        have hkk : k = 1 ∨ k = 2 ∨ k = 3 ∨ k = 9 ∨ k = 10 ∨ k = 11 ∨ (4 ≤ k ∧ k ≤ 8) := by omega
        clear hX hZ hT hl hlt hkn HPl
        rcases hkk with rfl | rfl | rfl | rfl | rfl | rfl | ⟨hk4, hk8⟩
        · have hu : u < 8 := by simp only [topOf] at hvt; simp at hvt; omega
          have hfin : tb (.node 1 a u ks) = fun x => x.testBit u := by unfold tb nodeF; simp
          have HFin := Lib.hid hfin; clear hfin hvt
          go_wp2_with fail
          refine (tvar_any u hu _).mono ?_
          rintro e w1 ⟨rfl, hb1⟩
          have R4 := HZ.out.keep hb1
          obtain ⟨⟨c0, c1, c2, c3⟩, f0, f1, f2, f3⟩ := R4.four
          have HR := Lib.hid R4; clear R4
          unfold tabV tabCells
          go_wp2_with fail
          exact ret_tab rfl _ _ rfl rfl (HR.out.put4 _ _ _ _) ⟨by rw [HFin.out], (hb.trans (hb1.mono hb.size)).put4 (by omega) _ _ _ _⟩
        · have hfin : tb (.node 2 a u ks) = fun x => ((u : Int) == 1) := by unfold tb nodeF; funext x; simp; rfl
          have HFin := Lib.hid hfin; clear hfin hvt
          go_wp2_with fail
          refine (tconst_any _ _).mono ?_
          rintro e w1 ⟨rfl, hb1⟩
          have R4 := HZ.out.keep hb1
          obtain ⟨⟨c0, c1, c2, c3⟩, f0, f1, f2, f3⟩ := R4.four
          have HR := Lib.hid R4; clear R4
          unfold tabV tabCells
          go_wp2_with fail
          exact ret_tab rfl _ _ rfl rfl (HR.out.put4 _ _ _ _) ⟨by rw [HFin.out], (hb.trans (hb1.mono hb.size)).put4 (by omega) _ _ _ _⟩
        · have hfin : tb (.node 3 a u ks) = fun x => !nth (tbs ks) 0 x := by unfold tb nodeF; simp
          have HFin := Lib.hid hfin; clear hfin hvt
          obtain ⟨⟨d0, d1, d2, d3⟩, _, _⟩ := HT.out.trio
          generalize nth (tbs ks) 0 = F0 at *
          go_wp2_with fail
          refine (tnot_any F0 _).mono ?_
          rintro e w1 ⟨rfl, hb1⟩
          have R4 := HZ.out.keep hb1
          obtain ⟨⟨c0, c1, c2, c3⟩, f0, f1, f2, f3⟩ := R4.four
          have HR := Lib.hid R4; clear R4
          unfold tabV tabCells
          go_wp2_with fail
          exact ret_tab rfl _ _ rfl rfl (HR.out.put4 _ _ _ _) ⟨by rw [HFin.out], (hb.trans (hb1.mono hb.size)).put4 (by omega) _ _ _ _⟩
        · have hfin : tb (.node 9 a u ks) = fun x => (nth (tbs ks) 0 x && nth (tbs ks) 1 x) || (!nth (tbs ks) 0 x && nth (tbs ks) 2 x) := by unfold tb nodeF; simp
          have HFin := Lib.hid hfin; clear hfin hvt
          obtain ⟨⟨d0, d1, d2, d3⟩, ⟨d4, d5, d6, d7⟩, d8, d9, d10, d11⟩ := HT.out.trio
          generalize nth (tbs ks) 0 = F0 at *
          generalize nth (tbs ks) 1 = F1 at *
          generalize nth (tbs ks) 2 = F2 at *
          go_wp2_with fail
          refine (tite_any F0 F1 F2 _).mono ?_
          rintro e w1 ⟨rfl, hb1⟩
          have R4 := HZ.out.keep hb1
          obtain ⟨⟨c0, c1, c2, c3⟩, f0, f1, f2, f3⟩ := R4.four
          have HR := Lib.hid R4; clear R4
          unfold tabV tabCells
          go_wp2_with fail
          exact ret_tab rfl _ _ rfl rfl (HR.out.put4 _ _ _ _) ⟨by rw [HFin.out], (hb.trans (hb1.mono hb.size)).put4 (by omega) _ _ _ _⟩
        · have hu : u < 8 := by simp only [topOf] at hvt; simp at hvt; omega
          have hfin : tb (.node 10 a u ks) = halvesTo and (2 ^ u) (nth (tbs ks) 0) 8 := by unfold tb nodeF; simp
          have HFin := Lib.hid hfin; clear hfin hvt
          obtain ⟨⟨d0, d1, d2, d3⟩, _, _⟩ := HT.out.trio
          generalize nth (tbs ks) 0 = F0 at *
          have hshl : IntKind.u8.wrap ((2 : Int) ^ u) = ((2 ^ u : Nat) : Int) := wrap_pow u hu
          have HPw := Lib.hid (show ((2 : Int) ^ u) = ((2 ^ u : Nat) : Int) by simp)
          have hmk : 2 ^ u < 256 := Nat.lt_of_lt_of_le (Nat.pow_lt_pow_right (by omega) hu) (by omega)
          go_wp2_with fail
          go_region_held3 (fun w' => ∀ p : Addr, (p.block = w.heap.size ∨ p.block = w.heap.size + 1 + 1) → w'.cell? p = wr.cell? p)
            (first
              | with_reducible exact fun p hp => hb1.of_drew.cell (by omega)
              | (intro p hp; rw [cell_put4 (by omega)]; exact hB2.cell (by omega))
              | exact fun _ _ => rfl)
            (first
              | (go_at_call 49; rw [HPw.out]; (with_reducible refine (tforall_any F0 (2 ^ u) hmk _).mono ?_); rintro e w1 ⟨rfl, hb1⟩;
                 have hB2 := hb1.of_drew; have R4 := HZ.out.keep hB2; obtain ⟨⟨c0, c1, c2, c3⟩, f0, f1, f2, f3⟩ := R4.four; have HR := Lib.hid R4; clear R4; unfold tabV tabCells))
          go_wp2_with fail
          exact ret_tab rfl _ _ rfl rfl (HR.out.put4 _ _ _ _) ⟨by rw [HFin.out], (hb.trans (hB2.mono hb.size)).put4 (by omega) _ _ _ _⟩
        · have hu : u < 8 := by simp only [topOf] at hvt; simp at hvt; omega
          have hfin : tb (.node 11 a u ks) = halvesTo or (2 ^ u) (nth (tbs ks) 0) 8 := by unfold tb nodeF; simp
          have HFin := Lib.hid hfin; clear hfin hvt
          obtain ⟨⟨d0, d1, d2, d3⟩, _, _⟩ := HT.out.trio
          generalize nth (tbs ks) 0 = F0 at *
          have hshl : IntKind.u8.wrap ((2 : Int) ^ u) = ((2 ^ u : Nat) : Int) := wrap_pow u hu
          have HPw := Lib.hid (show ((2 : Int) ^ u) = ((2 ^ u : Nat) : Int) by simp)
          have hmk : 2 ^ u < 256 := Nat.lt_of_lt_of_le (Nat.pow_lt_pow_right (by omega) hu) (by omega)
          go_wp2_with fail
          go_region_held3 (fun w' => ∀ p : Addr, (p.block = w.heap.size ∨ p.block = w.heap.size + 1 + 1) → w'.cell? p = wr.cell? p)
            (first
              | with_reducible exact fun p hp => hb1.of_drew.cell (by omega)
              | (intro p hp; rw [cell_put4 (by omega)]; exact hB2.cell (by omega))
              | exact fun _ _ => rfl)
            (first
              | (go_at_call 50; rw [HPw.out]; (with_reducible refine (texists_any F0 (2 ^ u) hmk _).mono ?_); rintro e w1 ⟨rfl, hb1⟩;
                 have hB2 := hb1.of_drew; have R4 := HZ.out.keep hB2; obtain ⟨⟨c0, c1, c2, c3⟩, f0, f1, f2, f3⟩ := R4.four; have HR := Lib.hid R4; clear R4; unfold tabV tabCells))
          go_wp2_with fail
          exact ret_tab rfl _ _ rfl rfl (HR.out.put4 _ _ _ _) ⟨by rw [HFin.out], (hb.trans (hB2.mono hb.size)).put4 (by omega) _ _ _ _⟩
        · have hfin : tb (.node k a u ks) = binF k (nth (tbs ks) 0) (nth (tbs ks) 1) := by
            unfold tb nodeF
            rw [if_neg (by omega), if_neg (by omega), if_neg (by omega), if_neg (by omega), if_neg (by omega), if_neg (by omega)]
          have HFin := Lib.hid hfin; clear hfin hvt
          obtain ⟨⟨d0, d1, d2, d3⟩, ⟨d4, d5, d6, d7⟩, _⟩ := HT.out.trio
          generalize nth (tbs ks) 0 = F0 at *
          generalize nth (tbs ks) 1 = F1 at *
          have hkk : k = 4 ∨ k = 5 ∨ k = 6 ∨ k = 7 ∨ k = 8 := by omega
          clear hk1 hk11 hk4 hk8
          rcases hkk with rfl | rfl | rfl | rfl | rfl
          all_goals
            go_wp2_with fail
            go_region_held3 (fun w' => ∀ p : Addr, (p.block = w.heap.size ∨ p.block = w.heap.size + 1 + 1) → w'.cell? p = wr.cell? p)
              (first
                | with_reducible exact fun p hp => hb1.of_drew.cell (by omega)
                | (intro p hp; rw [cell_put4 (by omega)]; exact hB2.cell (by omega))
                | exact fun _ _ => rfl)
              (first
                | (go_at_call 51; (with_reducible refine (tables_any _ _).mono ?_); rintro e w1 ⟨rfl, rfl⟩;
                   first | rw [show tabNo 4 = 71 from rfl] | rw [show tabNo 5 = 70 from rfl] | rw [show tabNo 6 = 73 from rfl] | rw [show tabNo 7 = 74 from rfl] | rw [show tabNo 8 = 75 from rfl])
                | (first
                    | (go_at_call 71; (with_reducible refine (tand_any F0 F1 _).mono ?_))
                    | (go_at_call 70; (with_reducible refine (tor_any F0 F1 _).mono ?_))
                    | (go_at_call 73; (with_reducible refine (txor_any F0 F1 _).mono ?_))
                    | (go_at_call 74; (with_reducible refine (tables1_any F0 F1 _).mono ?_))
                    | (go_at_call 75; (with_reducible refine (tables2_any F0 F1 _).mono ?_))
                   rintro e w1 ⟨rfl, hb1⟩
                   have hB2 := hb1.of_drew; have R4 := HZ.out.keep hB2; obtain ⟨⟨c0, c1, c2, c3⟩, f0, f1, f2, f3⟩ := R4.four; have HR := Lib.hid R4; clear R4; unfold tabV tabCells))
            go_wp2_with fail
            exact ret_tab rfl _ _ rfl rfl (HR.out.put4 _ _ _ _) ⟨by rw [HFin.out]; rfl, (hb.trans (hB2.mono hb.size)).put4 (by omega) _ _ _ _⟩
end Go.Proofs.Ytmjpecjciibngaa
