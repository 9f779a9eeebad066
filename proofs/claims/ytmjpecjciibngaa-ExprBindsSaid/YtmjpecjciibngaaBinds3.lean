/- ExprBinds: the walk of the long way (in work, does not build yet). -/
import Derived.Test.YtmjpecjciibngaaRowApp
namespace Go.Proofs.Ytmjpecjciibngaa
open Go.RowKit
set_option linter.unusedVariables false

set_option maxRecDepth 100000 in
set_option maxHeartbeats 2000000 in
theorem binds_long (v1 v2 : Value) (os vs : List Nat) (w : World) (h1 : BytesV w v1 os) (h2 : BytesV w v2 vs) (hl2 : vs.length ≤ 9223372036854775807) (h6 : os.length ≤ 6) (hlt : os.length < vs.length) :
    Calls Try.prog 3 #[v1, v2] w fun e w' => e = .returned (.bool true) ∧ Below w.heap.size w w' := by
  obtain ⟨i0, hi0, hz0, hz1, hz2⟩ := info_parts tabInfo
  have hi0' := Lib.hid hi0; have hz0' := Lib.hid hz0; have hz1' := Lib.hid hz1; have hz2' := Lib.hid hz2
  clear hi0 hz0 hz1 hz2
  obtain ⟨A, c, rfl, hA⟩ := h1
  obtain ⟨A', c', rfl, hA'⟩ := h2
  obtain ⟨x0, hx0⟩ : ∃ x, vs[0]? = some x := ⟨vs[0]'(by omega), List.getElem?_eq_getElem _⟩
  obtain ⟨hx256, g', o', rfl, q0⟩ := hA' 0 x0 hx0
  obtain ⟨d0, hd8, hdd, hdi⟩ : ∃ d : Nat, d < 8 ∧ x0 % 8 = d ∧ (x0 : Int) % 8 = (d : Int) := ⟨x0 % 8, by omega, rfl, by omega⟩
  have hgl := World.block_lt_of_cell? _ _ q0
  simp only [Nat.add_zero] at q0 hgl
  generalize hn : os.length = n at *
  generalize hn' : vs.length = n' at *
  have HA := Lib.hid hA; have HA' := Lib.hid hA'; have Hn := Lib.hid hn; have Hn' := Lib.hid hn'; have H0 := Lib.hid hx0
  clear hA hA' hn hn' hx0
  have hi1 : ¬ (6 : Int) < (n : Int) := by omega
  have hi2 : ¬ (n' : Int) ≤ (n : Int) := by omega
  have hi3 : (0 : Int) < (n' : Int) := by omega
  go_enter Try.func3, Try.ntmps3
  go_wp2_with fail
  refine (known_any _).mono ?_
  rintro e w1 ⟨rfl, hb1⟩
  have hsz1 := hb1.size
  replace q0 := (hb1.cell (p := ⟨g', o', none⟩) hgl).trans q0
  have hgl1 : g' < w1.heap.size := Nat.lt_of_lt_of_le hgl hb1.size
  have hgn : g' ≠ w1.heap.size := by omega
  go_wp2_with fail
  refine (name_any x0 hx256 _).mono ?_
  rw [hdd]
  rintro e w2 ⟨rfl, hb2⟩
  have hS2 := (Blk.new w1 24 #[.string ⟨#[38]⟩, .string ⟨#[94]⟩, .string ⟨#[124]⟩, .string ⟨#[45, 62]⟩, .string ⟨#[60, 45, 62]⟩]).keep hb2
  have hsz2 := hb2.size
  simp only [World.size_alloc] at hsz2
  replace q0 := (hb2.cell (p := ⟨g', o', none⟩) (by simp; omega)).trans (((below1 w1 _).cell (p := ⟨g', o', none⟩) hgl1).trans q0)
  have hB2 := (hb1.alloc hb1.size (.cells #[.string ⟨#[38]⟩, .string ⟨#[94]⟩, .string ⟨#[124]⟩, .string ⟨#[45, 62]⟩, .string ⟨#[60, 45, 62]⟩] 24)).step hb2
  have HS2 := Lib.hid hS2; have HB2 := Lib.hid hB2
  clear hS2 hb2 hB2
  go_wp2_with fail
  refine (rvar_any d0 hd8 _).mono ?_
  rintro e w3 ⟨rfl, hb3⟩
  have HS3 := Lib.hid (HS2.out.keep hb3); have HB3 := Lib.hid (HB2.out.step hb3)
  have hsz3 := hb3.size
  clear hb3 q0
  unfold tabV tabCells
  go_wp2_with (at_builtin; refine wpList_append_own_at _ rfl (.tmp 32) (.tmp 39) _ rfl (w1.heap.size + 1) 29 i0 (.agg zeroTab) 4 32 Try.underlying26 hi0'.out hz0'.out hz1'.out hz2'.out rfl (by omega) (.slice none 0 0) 0 [] rfl (World.ownsRow_nil _ _ _ _) ⟨w3.heap.size, 0, none⟩ 1 1 (tabCells (fun x : Nat => x.testBit d0)).toList rfl rfl (four_new _ _ _ _ _ _) (by simp [Value.oneCell']) (by unfold maxLen; omega) (by omega) (by simp; omega) ?_; intro v' w4 hO4 hgr4 _ hat)
  have hG4 : w3.grownBy w4 none := grown_trans (grown_below (below1 w3 _) none) hgr4
  have hB4 : Below w.heap.size w w4 := HB3.out.step ⟨hG4.os, hG4.tape, hG4.output, hG4.size, fun i hi => hG4.block i hi (by simp)⟩
  have HS4 := Lib.hid (HS3.out.grown hG4 (by simp)); have HB4 := Lib.hid hB4
  have hsz4 := hG4.size
  obtain ⟨row, hrow⟩ : ∃ row : Row, row = (os.map (· % 5)).zip ((vs.drop 1).map (· % 8)) := ⟨_, rfl⟩
  have hrl : row.length = n := by rw [hrow]; simp; have := Hn.out; have := Hn'.out; omega
  have HO4 := Lib.hid hO4; have Hrow := Lib.hid hrow; have Hrl := Lib.hid hrl
  clear hO4 hgr4 hG4 hB4 hrow hrl hat
  go_loopw [9, 6, 7, 8] (fun i s vT vO wr => ∃ k : Nat, k ≤ n ∧ i = .int .i64 k ∧ s = .string (str (textR d0 (row.take k))) ∧ wr.ownsRow (w1.heap.size + 1) 29 4 vT (k + 1) (tabRow (treesOf (leafT d0, rowT (row.take k)))) ∧ wr.ownsRow (w1.heap.size + 1) 3 1 vO k (opCells ((row.take k).map (·.1))) ∧ (∀ g, vO.ownBlock = some g → vT.ownBlock ≠ some g) ∧
    Below w.heap.size w wr ∧ w1.heap.size + 1 ≤ wr.heap.size ∧ Blk wr w1.heap.size 24 #[.string ⟨#[38]⟩, .string ⟨#[94]⟩, .string ⟨#[124]⟩, .string ⟨#[45, 62]⟩, .string ⟨#[60, 45, 62]⟩]) (fun i _ _ _ _ => n - (intOf i).toNat)
  case atStart =>
    refine ⟨0, by omega, rfl, rfl, ?_, World.ownsRow_nil _ _ _ _, by simp [Value.ownBlock], HB4.out, by omega, HS4.out⟩
    exact HO4.out
  case round =>
    obtain ⟨k, hk, rfl, rfl, hT, hO, hne, hb, hsz, hS⟩ := hrel
    obtain ⟨vT, rfl⟩ : ∃ v : Value, v = u7 := ⟨_, rfl⟩
    obtain ⟨vO, rfl⟩ : ∃ v : Value, v = u8 := ⟨_, rfl⟩
    have HT := Lib.hid hT; have HO := Lib.hid hO; have HNe := Lib.hid hne; have HS := Lib.hid hS
    clear hT hO hne hS
    by_cases hkn : k < n
    · obtain ⟨x, hx⟩ : ∃ x, os[k]? = some x := ⟨os[k]'(by have := Hn.out; omega), List.getElem?_eq_getElem _⟩
      obtain ⟨y, hy⟩ : ∃ y, vs[k + 1]? = some y := ⟨vs[k + 1]'(by have := Hn'.out; omega), List.getElem?_eq_getElem _⟩
      have hrk : row[k]? = some (x % 5, y % 8) := by
        rw [Hrow.out]
        simp [List.getElem?_zip_eq_some, hx, hy]
      obtain ⟨hx2, g1, o1, rfl, p1⟩ := HA.out k x hx
      obtain ⟨hy2, g2, o2, e2, p2⟩ := HA'.out (k + 1) y hy
      cases e2
      have hg1 := World.block_lt_of_cell? _ _ p1
      simp only at hg1
      replace p1 := (hb.cell (p := ⟨g1, o1 + k, none⟩) hg1).trans p1
      replace p2 := (hb.cell (p := ⟨g', o' + (k + 1), none⟩) hgl).trans p2
      obtain ⟨m, hm5, hmm, hmi⟩ : ∃ m : Nat, m < 5 ∧ x % 5 = m ∧ (x : Int) % 5 = (m : Int) := ⟨x % 5, by omega, rfl, by omega⟩
      have p3 : wr.cell? ⟨w1.heap.size, m, none⟩ = some (.string (str (sgn m))) := by
        have h5 : m = 0 ∨ m = 1 ∨ m = 2 ∨ m = 3 ∨ m = 4 := by omega
        rcases h5 with rfl | rfl | rfl | rfl | rfl <;> exact HS.out.cell _
      have hws := hb.size
      have hk0 : (0 : Int) ≤ (k : Int) := by omega
      have hk1 : (k : Int) < (n : Int) := by omega
      have hk2 : (k : Int) + 1 < (n' : Int) := by omega
      have hm0 : (0 : Int) ≤ (m : Int) := by omega
      have hm5' : (m : Int) < 5 := by omega
      obtain ⟨e1, he18, hed, hei⟩ : ∃ d : Nat, d < 8 ∧ y % 8 = d ∧ (y : Int) % 8 = (d : Int) := ⟨y % 8, by omega, rfl, by omega⟩
      have l1 : (str (textR d0 (row.take k))).size ≤ 1000 := by
        rw [size_str]
        have := tail_len (row.take k)
        have h3 : (row.take k).length ≤ 6 := by rw [List.length_take]; omega
        simp only [textR, List.length_append, List.length_cons, List.length_nil]
        omega
      have l2 : (str (sgn m)).size ≤ 3 := by rw [size_str]; unfold sgn; split <;> simp
      have l3 : (str [118, dg e1]).size ≤ 2 := by rw [size_str]; simp
      have n1 : ¬ 9223372036854775807 < (str (textR d0 (row.take k))).size + 1 := by omega
      have n2 : ¬ 9223372036854775807 < (str (textR d0 (row.take k))).size + 1 + (str (sgn m)).size := by omega
      have n3 : ¬ 9223372036854775807 < (str (textR d0 (row.take k))).size + 1 + (str (sgn m)).size + 1 := by omega
      have n4 : ¬ 9223372036854775807 < (str (textR d0 (row.take k))).size + 1 + (str (sgn m)).size + 1 + (str [118, dg e1]).size := by omega
      have k1 : (0 : Int) ≤ (k : Int) + 1 := by omega
      have x1 : (x : Int).tmod 5 = (m : Int) := by rw [Int.tmod_eq_emod_of_nonneg (by omega)]; exact hmi
      have x2 : IntKind.i64.wrap ((k : Int) + 1) = (k : Int) + 1 := IntWalk.i64_in _ (by omega)
      have x3 : ((k : Int) + 1).toNat = k + 1 := by omega
      go_wp2_with fail
      go_region_held3 (fun w' => w'.cell? ⟨g1, o1 + k, none⟩ = some (.int .u8 (x : Int)) ∧ w'.cell? ⟨g', o' + (k + 1), none⟩ = some (.int .u8 (y : Int)) ∧ w'.cell? ⟨w1.heap.size, m, none⟩ = some (.string (str (sgn m))))
        (first
          | go_keep
          | exact ⟨(hbn.of_drew.cell (by simp; omega)).trans p1, (hbn.of_drew.cell (by simp; omega)).trans p2, (hbn.of_drew.cell (by simp; omega)).trans p3⟩)
        (first
          | (go_at_call 9; (with_reducible refine (name_any y hy2 _).mono ?_); rw [hed]; rintro e wn ⟨rfl, hbn⟩))
      have hbn2 : Below wr.heap.size wr wn := hbn.of_drew
      have HTn := Lib.hid (World.ownsRow.kept HT.out (grown_below hbn2 none) (by cases vT.ownBlock <;> simp))
      have HOn := Lib.hid (World.ownsRow.kept HO.out (grown_below hbn2 none) (by cases vO.ownBlock <;> simp))
      have HSn := Lib.hid (HS.out.keep hbn2)
      have hbw := hb.step hbn2
      have q1 := (hbn2.cell (p := ⟨g1, o1 + k, none⟩) (by simp; omega)).trans p1
      have q2 := (hbn2.cell (p := ⟨g', o' + (k + 1), none⟩) (by simp; omega)).trans p2
      have hszn := hbn2.size
      clear p1 p2 p3 hbn hbn2
      have o1' : ∀ W : World, W.heap.size = wn.heap.size → ∀ j u, [Value.int .i64 (m : Int)][j]? = some u → (W.alloc (.cells #[.int .i64 (m : Int)] 3)).cell? ((⟨wn.heap.size, 0, none⟩ : Addr).add j) = some u := fun W hW j u hj => by
        match j, hj with
        | 0, hj => cases hj; rw [← hW]; exact (Blk.new W _ _).cell 0
      go_wp2_with (at_builtin; refine wpList_step_run rfl (.tmp 65) (.tmp 72) _ _ rfl vO (.slice (some ⟨wn.heap.size, 0, none⟩) 1 1) rfl rfl (run_app_int _ (w1.heap.size + 1) _ vO k _ (HOn.out.alloc _) (by simp; omega) ⟨wn.heap.size, 0, none⟩ 1 1 [.int .i64 (m : Int)] rfl (o1' wn rfl) (by simp [Value.oneCell']) (by omega)) ?_; rintro vO1 wo hPO; have q3 := hPO.2.1.cell (a := ⟨g', o' + (k + 1), none⟩) (((below1 wn _).cell (p := ⟨g', o' + (k + 1), none⟩) (by simp; omega)).trans q2) (own_ne HOn.out (by simp; omega)))
      refine (rvar_any e1 he18 _).mono ?_
      rintro e w5 ⟨rfl, hb5⟩
      have HTo := Lib.hid ((hPO.far (HTn.out.alloc _) (fun g hg h => HNe.out g h hg)))
      have HOo := Lib.hid hPO.own
      have HNo := Lib.hid (hPO.ne1 (HTn.out.alloc _) (fun g hg h => HNe.out g h hg))
      have HSo := Lib.hid (hPO.blk (HOn.out.alloc _) (HSn.out.alloc _) (by omega))
      have HBo := Lib.hid (hPO.below (HOn.out.alloc _) (hbw.alloc hbw.size _) (by omega))
      have hszo := hPO.2.1.size
      simp only [World.size_alloc] at hszo
      have HT5 := Lib.hid (World.ownsRow.kept HTo.out (grown_below hb5 none) (by cases vT.ownBlock <;> simp))
      have HO5 := Lib.hid (World.ownsRow.kept HOo.out (grown_below hb5 none) (by cases vO1.ownBlock <;> simp))
      have HS5 := Lib.hid (HSo.out.keep hb5)
      have HB5 := Lib.hid (HBo.out.step hb5)
      have hsz5 := hb5.size
      clear hPO hb5 q1 q2 q3 HTo HOo HSo HBo HTn HOn HSn hbw o1'
      unfold tabV tabCells
      go_wp2_with (at_builtin; refine wpList_step_run rfl (.tmp 74) (.tmp 83) _ _ rfl vT (.slice (some ⟨w5.heap.size, 0, none⟩) 1 1) rfl rfl (run_app_tab _ (w1.heap.size + 1) _ vT (k + 1) _ (HT5.out.alloc _) (by simp; omega) ⟨w5.heap.size, 0, none⟩ 1 1 (tabCells (fun x : Nat => x.testBit e1)).toList rfl (four_new _ _ _ _ _ _) (by simp [Value.oneCell']) (by omega)) ?_; rintro vT1 w6 hPT)
      have HT6 := Lib.hid hPT.own
      have HO6 := Lib.hid (hPT.far (HO5.out.alloc _) (fun g hg h => HNo.out g h hg))
      have HN6 := Lib.hid (hPT.ne1 (HO5.out.alloc _) (fun g hg h => HNo.out g h hg))
      have HS6 := Lib.hid (hPT.blk (HT5.out.alloc _) (HS5.out.alloc _) (by omega))
      have HB6 := Lib.hid (hPT.below (HT5.out.alloc _) (HB5.out.alloc HB5.out.size _) (by omega))
      have hsz6 := hPT.2.1.size
      simp only [World.size_alloc] at hsz6
      clear hPT HT5 HO5 HS5 HB5 HNo
      go_wp2_with fail
      go_roundw
      case measure => simp [intOf]; omega
      case rel =>
        have hrt : row.take (k + 1) = row.take k ++ [(m, e1)] := by rw [List.take_add_one, hrk, hmm, hed]; rfl
        refine ⟨k + 1, by omega, by go_num, ?_, ?_, ?_, HN6.out, HB6.out, by omega, HS6.out⟩
        · rw [text_snoc, hrt]
        · rw [hrt, trees_snoc]; exact HT6.out
        · rw [hrt, ops_snoc]; exact HO6.out
    · obtain rfl : k = n := by omega
      have hk1 : ¬ (k : Int) < (k : Int) := by omega
      have HT' : Hid (wr.ownsRow (w1.heap.size + 1) 29 4 vT (k + 1) (tabRow (treesOf (leafT d0, rowT row)))) := Lib.hid (by have := HT.out; rwa [List.take_of_length_le (by have := Hrl.out; omega)] at this)
      have HO' : Hid (wr.ownsRow (w1.heap.size + 1) 3 1 vO k (opCells (row.map (·.1)))) := Lib.hid (by have := HO.out; rwa [List.take_of_length_le (by have := Hrl.out; omega)] at this)
      have hst : (.string (str (textR d0 (row.take k))) : Value) = .string (str (textR d0 row)) := by rw [List.take_of_length_le (by have := Hrl.out; omega)]
      rw [hst]
      have HB := Lib.hid hb
      have hG : GoodRow row := by
        rw [Hrow.out]
        intro p hp
        have := List.of_mem_zip hp
        simp only [List.mem_map] at this
        obtain ⟨⟨a, _, ha⟩, ⟨b, _, hb⟩⟩ := this
        omega
      have HG := Lib.hid hG
      have hS0 : BState w wr (w1.heap.size + 1) vT vO (leafT d0, rowT row) := ⟨by simp [rowT]; have := Hrl.out; omega, by
        intro p hp
        simp only [rowT, List.mem_map] at hp
        obtain ⟨q, hq, rfl⟩ := hp
        exact (hG q hq).1, by simpa [rowT, Hrl.out] using HT'.out, by simpa [rowT, Hrl.out, opsOf, Function.comp_def] using HO'.out, HNe.out, hb, by omega, hsz⟩
      have HS0 := Lib.hid hS0
      clear HT HO hst HS hb HT' HO' hG hS0 HNe
      go_wp2_with fail
      go_loopw [10, 7, 8] (fun kk vT vO wr => ∃ (k : Nat) (s : RowT), k ≤ 5 ∧ kk = .int .i64 k ∧ restM k s = restM 0 (leafT d0, rowT row) ∧ BState w wr (w1.heap.size + 1) vT vO s) (fun kk _ _ _ => 5 - (intOf kk).toNat)
      case atStart => exact ⟨0, _, by omega, rfl, rfl, HS0.out⟩
      case round =>
        clear HS0 HA HA' Hn Hn' H0 hi0' hz0' hz1' hz2' hx256 hgl hgl1 hgn hdd hdi
        obtain ⟨kk, s, hkk, rfl, hrest, hSt⟩ := hrel
        have HSt := Lib.hid hSt; have HRest := Lib.hid hrest
        clear hSt hrest
        by_cases hk5 : kk < 5
        · have hk0 : (0 : Int) ≤ (kk : Int) := by omega
          have hk5' : (kk : Int) < 5 := by omega
          go_wp2_with fail
          refine (first_any (w1.heap.size + 1) u8 (opsOf s) kk _ (by have := HSt.out.2.2.2.1; rwa [show (opsOf s).length = s.2.length by simp [opsOf]]) hk5 (by have := HSt.out.1; simp [opsOf]; omega) HSt.out.ops5).mono ?_
          rintro e wf ⟨rfl, rfl⟩
          go_wp2_with fail
          go_loopw [11, 7, 8] (fun ii vT vO wr => ∃ s : RowT, ii = .int .i64 (firstL (opsOf s) kk) ∧ restM kk s = restM 0 (leafT d0, rowT row) ∧ BState w wr (w1.heap.size + 1) vT vO s) (fun _ _ vO _ => lenV vO)
          case atStart => exact ⟨s, rfl, HRest.out, HSt.out⟩
          case round =>
            clear HSt HRest
            obtain ⟨s, rfl, hrest, hSt⟩ := hrel
            have HSt := Lib.hid hSt; have HRest := Lib.hid hrest
            clear hSt hrest
            cases hf : decide (0 ≤ firstL (opsOf s) kk)
            · simp only [decide_eq_false_iff_not] at hf
              have HR2 := Lib.hid ((step_none kk hk5 s (by omega)).trans HRest.out)
              generalize firstL (opsOf s) kk = F at *
              go_wp2_with fail
              go_roundw
              case measure => simp [intOf]; omega
              case rel => exact ⟨kk + 1, s, by omega, by go_num, HR2.out, HSt.out⟩
            · simp only [decide_eq_true_eq] at hf
              obtain ⟨i, hi⟩ : ∃ i : Nat, firstL (opsOf s) kk = (i : Int) := ⟨(firstL (opsOf s) kk).toNat, by omega⟩
              have HI := Lib.hid hi
              rw [hi]
              clear hf hi
              obtain ⟨L, a, b, gT, cT, gO, cO, hx⟩ := HSt.out.facts hk5 HI.out
              obtain ⟨hL, hL6, hiL, ha, hb, hop, rfl, rfl, hcT, hcO, hgT, hgO, hne, hBT, hBO⟩ := hx
              obtain ⟨A0, A1, A2, A3⟩ := HSt.out.tabCell ha
              obtain ⟨B0, B1, B2, B3⟩ := HSt.out.tabCell hb
              have HTL : Hid (wr.ownsRow (w1.heap.size + 1) 29 4 (.slice (some ⟨gT, 0, none⟩) (L + 1) cT) (L + 1) (tabRow (treesOf s))) := Lib.hid (by have := HSt.out.2.2.1; rwa [hL] at this)
              have HOL : Hid (wr.ownsRow (w1.heap.size + 1) 3 1 (.slice (some ⟨gO, 0, none⟩) L cO) L (opCells (opsOf s))) := Lib.hid (by have := HSt.out.2.2.2.1; rwa [hL] at this)
              have HL := Lib.hid hL; have Ha := Lib.hid ha; have Hb := Lib.hid hb; have Hop := Lib.hid hop
              clear hL ha hb hop
              have i0 : (0 : Int) ≤ (i : Int) := by omega
              have i1 : (i : Int) < (L : Int) + 1 := by omega
              have i2 : IntKind.i64.wrap ((i : Int) + 1) = (i : Int) + 1 := IntWalk.i64_in _ (by omega)
              have i3 : (0 : Int) ≤ (i : Int) + 1 := by omega
              have i4 : (i : Int) + 1 < (L : Int) + 1 := by omega
              have i5 : ((i : Int) + 1).toNat = i + 1 := by omega
              go_wp2_with fail
              go_region_with (first
                  | (go_at_call 12; (with_reducible refine (join_any kk hk5 (tb a) (tb b) _).mono ?_); rintro e wj ⟨rfl, hbj⟩; have fz : ∀ j, wj.frozen? ⟨gT, j, none⟩ = false := (World.ownsRow.kept HTL.out (grown_below hbj.of_drew none) (by simp [Value.ownBlock])).frozenAt;
                     have c0 := (hbj.of_drew.cell hgT).trans A0; have c1 := (hbj.of_drew.cell hgT).trans A1; have c2 := (hbj.of_drew.cell hgT).trans A2; have c3 := (hbj.of_drew.cell hgT).trans A3; unfold tabV tabCells))
              all_goals
                obtain ⟨W, hW⟩ : ∃ W : World, W = (((wj.setCell ⟨gT, i * 4, none⟩ (.int .u64 (wd (joinF kk (tb a) (tb b)) 0 : Nat))).setCell ⟨gT, i * 4 + 1, none⟩ (.int .u64 (wd (joinF kk (tb a) (tb b)) 1 : Nat))).setCell ⟨gT, i * 4 + 2, none⟩ (.int .u64 (wd (joinF kk (tb a) (tb b)) 2 : Nat))).setCell ⟨gT, i * 4 + 3, none⟩ (.int .u64 (wd (joinF kk (tb a) (tb b)) 3 : Nat)) := ⟨_, rfl⟩
                rw [← hW]
                have HW := Lib.hid (stored_state hW HSt.out HTL.out HOL.out HL.out hbj.of_drew (by omega) hne hBT (jnT kk a b) (tb_jn kk hk5 a b))
                have hszW : wr.heap.size ≤ W.heap.size := by rw [hW]; simpa using hbj.of_drew.size
                clear hW hbj fz c0 c1 c2 c3 A0 A1 A2 A3 B0 B1 B2 B3 HTL HOL
                have j2 : IntKind.i64.wrap ((i : Int) + 2) = (i : Int) + 2 := IntWalk.i64_in _ (by omega)
                have j3 : (0 : Int) ≤ (i : Int) + 2 := by omega
                have j4 : (i : Int) + 2 ≤ (L : Int) + 1 := by omega
                have j5 : ((i : Int) + 2).toNat = i + 2 := by omega
                have j6 : (i : Int) + 1 ≤ (cT : Int) := by omega
                go_wp2_with fail
                go_region_held3 (fun _ => True)
                  (first
                    | exact True.intro
                    | go_keep)
                  (first
                    | (refine step_run (by rfl) _ _ _ _ (by rfl) _ _ (by rfl) (by rfl) (tab_cut1 (HW.out.1.drew) (by simp [treesOf, HL.out]) hiL hL6 (by simp; omega) _ _) ?_; rintro v1 W1 hP1)
                    | (refine step_run (by rfl) _ _ _ _ (by rfl) _ _ (by rfl) (by rfl) (tab_cut2 hP1.own (hP1.far (HW.out.1.drew) (by simp [Value.ownBlock])) (by simp [treesOf, HL.out]) hiL hL6 (by omega) hcT (by have := hP1.2.1.size; simp at this; omega) _ _) ?_; rintro v2 W2 hP2))
                clear j2 j3 j4 j5 j6
                have HT2 := Lib.hid hP2.own
                have hn1 := hP1.ne1 (HW.out.2.1.drew) (by simp [Value.ownBlock])
                have hO1 := hP1.far (HW.out.2.1.drew) (by simp [Value.ownBlock])
                have HO2 := Lib.hid (hP2.far hO1 hn1)
                have HN2 := Lib.hid (hP2.ne1 hO1 hn1)
                have hB1 := hP1.below (World.ownsRow_nil _ (w1.heap.size + 1) 29 4) (HW.out.2.2.drew) (by omega)
                have HB2 := Lib.hid (hP2.below hP1.own hB1 (by omega))
                have hsz2' : W.heap.size ≤ W1.heap.size := hP1.2.1.size
                have hsz3' := hP2.2.1.size
                clear hn1 hO1 hB1
                clear hP1 hP2
                generalize (if cT = i + 2 then some (⟨gT, 0, none⟩ : Addr) else some ⟨gT, (i + 2) * 4, none⟩) = aT
                go_wp2_with fail
                have o2 : (i : Int) ≤ (cO : Int) := by omega
                have o3 : (i : Int) + 1 ≤ (L : Int) := by omega
                have o4 : IntKind.i64.wrap ((i : Int) + 1) = (i : Int) + 1 := IntWalk.i64_in _ (by omega)
                go_region_held3 (fun _ => True)
                  (first
                    | exact True.intro
                    | go_keep)
                  (first
                    | (refine step_run (by rfl) _ _ _ _ (by rfl) _ _ (by rfl) (by rfl) (int_cut1 (HO2.out.drew) (by simp [opsOf, HL.out]) hiL hL6 (by simp; omega) _ _) ?_; rintro v3 W3 hP3)
                    | (refine step_run (by rfl) _ _ _ _ (by rfl) _ _ (by rfl) (by rfl) (int_cut2 hP3.own (hP3.far (HO2.out.drew) (by simp [Value.ownBlock])) (by simp [opsOf, HL.out]) hiL hL6 (by omega) hcO (by have := hP3.2.1.size; simp at this; omega) _ _) ?_; rintro v4 W4 hP4))
                have HT4 := Lib.hid (hP4.far (hP3.far (HT2.out.drew) (by simp [Value.ownBlock])) (hP3.ne1 (HT2.out.drew) (by simp [Value.ownBlock])))
                have HN4 := Lib.hid (hP4.ne1 (hP3.far (HT2.out.drew) (by simp [Value.ownBlock])) (hP3.ne1 (HT2.out.drew) (by simp [Value.ownBlock])))
                have hB3 := hP3.below (World.ownsRow_nil _ (w1.heap.size + 1) 3 1) (HB2.out.drew) (by omega)
                have HB4 := Lib.hid (hP4.below hP3.own hB3 (by omega))
                have HO4 := Lib.hid hP4.own
                have hsz4' : W2.heap.size ≤ W3.heap.size := hP3.2.1.size
                have hsz5' := hP4.2.1.size
                clear hP3 hP4 hB3 HT2 HO2 HN2 HB2 HW o2 o3 o4
                have hst := step_state (k := kk) HSt.out HL.out HI.out hk5 Ha.out Hb.out Hop.out HT4.out HO4.out HN4.out HB4.out (by omega) (by omega)
                obtain ⟨hst1, hst2, hst3⟩ := hst
                have HX := Lib.hid hst1; have HY := Lib.hid hst2; have HZ := Lib.hid hst3
                clear hst1 hst2 hst3 HT4 HN4 HB4
                generalize (if cO = i + 1 then some (⟨gO, 0, none⟩ : Addr) else some ⟨gO, i + 1, none⟩) = aO
                go_wp2_with fail
                refine (first_any (w1.heap.size + 1) v4 (opsOf (stepAt jnT i s.1 s.2)) kk _ (by have := HX.out.2.2.2.1; rwa [show (opsOf (stepAt jnT i s.1 s.2)).length = (stepAt jnT i s.1 s.2).2.length by simp [opsOf]]) hk5 (by have := HX.out.1; simp [opsOf]; omega) HX.out.ops5).mono ?_
                rintro e wf ⟨rfl, rfl⟩
                go_wp2_with fail
                go_roundw
                case measure => rw [HZ.out]; simp [lenV]; omega
                case rel => exact ⟨_, rfl, HY.out.trans HRest.out, HX.out⟩
        · obtain rfl : kk = 5 := by omega
          have hrl : row.length ≤ 6 := by have := Hrl.out; omega
          obtain ⟨t, hp, hfin⟩ := end_row d0 row hd8 HG.out hrl s HRest.out HSt.out
          obtain ⟨hts, hsm, htb, hTw⟩ := hfin
          obtain ⟨gT, cT, rfl, hcT, hgT, hgl, hoT⟩ := own_form hTw (by omega)
          have HTb := Lib.hid htb; have HSm := Lib.hid hsm; have HP := Lib.hid hp
          have A0 := (hTw.cells (g := gT) rfl 0 (.int .u64 (wd (tb t) 0 : Nat)) rfl)
          have A1 := (hTw.cells (g := gT) rfl 1 (.int .u64 (wd (tb t) 1 : Nat)) rfl)
          have A2 := (hTw.cells (g := gT) rfl 2 (.int .u64 (wd (tb t) 2 : Nat)) rfl)
          have A3 := (hTw.cells (g := gT) rfl 3 (.int .u64 (wd (tb t) 3 : Nat)) rfl)
          rw [add0] at A0 A1 A2 A3
          have hbw := HSt.out.2.2.2.2.2.1
          have hlen : (textR d0 row).length ≤ 140737488351232 := by
            have := tail_len row
            simp only [textR, List.length_append, List.length_cons, List.length_nil]
            omega
          clear hts hsm htb hTw hp HSt HRest hoT
          go_wp2_with fail
          refine (parse_any (textR d0 row) _ hlen).mono ?_
          unfold ParseSays
          rw [HP.out]
          rintro e wp ⟨x, rfl, hE, hbp⟩
          obtain ⟨xk, xa, xv, xA, xn, xc, rfl⟩ := hE.four
          have hX := Blk.new wp 36 #[.int .i64 xk, .int .i64 xa, .int .i64 xv, .slice xA xn xc]
          obtain ⟨⟨x0', x1', x2', x3'⟩, _⟩ := hX.four
          have HE := Lib.hid (hE.alloc (.cells #[.int .i64 xk, .int .i64 xa, .int .i64 xv, .slice xA xn xc] 36))
          have hbp2 := hbp.alloc hbp.size (.cells #[.int .i64 xk, .int .i64 xa, .int .i64 xv, .slice xA xn xc] 36)
          replace A0 := (hbp2.cell hgl).trans A0
          replace A1 := (hbp2.cell hgl).trans A1
          replace A2 := (hbp2.cell hgl).trans A2
          replace A3 := (hbp2.cell hgl).trans A3
          have HBp := Lib.hid (hbw.step hbp2)
          have hszp := hbp.size
          clear hE hX hbp hbp2 hbw
          have hq : ∀ W : World, (Op.equalIn 10000 29 (.agg (tabCells (tb t))) (.agg (tabCells (tb t)))).run Try.prog W = .ok true W := fun W => by rw [eqTab, (wds_iff (tb t) (tb t)).2 fun _ _ => rfl]
          unfold tabCells at hq
          go_wp2_with fail
          obtain ⟨W, hW⟩ : ∃ W : World, W = wp.alloc (.cells #[.int .i64 xk, .int .i64 xa, .int .i64 xv, .slice xA xn xc] 36) := ⟨_, rfl⟩
          have hlX : wp.heap.size < W.heap.size := by rw [hW]; simp
          have hlT : gT < W.heap.size := by omega
          rw [← hW] at x0' x1' x2' x3' A0 A1 A2 A3 HBp HE
          rw [← hW]
          clear hW
          go_region_held3 (fun w' => (w'.cell? ⟨wp.heap.size, 0, none⟩ = some (.int .i64 xk) ∧ w'.cell? ⟨wp.heap.size, 1, none⟩ = some (.int .i64 xa) ∧ w'.cell? ⟨wp.heap.size, 2, none⟩ = some (.int .i64 xv) ∧ w'.cell? ⟨wp.heap.size, 3, none⟩ = some (.slice xA xn xc)) ∧
              (w'.cell? ⟨gT, 0, none⟩ = some (.int .u64 (wd (tb t) 0 : Nat)) ∧ w'.cell? ⟨gT, 1, none⟩ = some (.int .u64 (wd (tb t) 1 : Nat)) ∧ w'.cell? ⟨gT, 2, none⟩ = some (.int .u64 (wd (tb t) 2 : Nat)) ∧ w'.cell? ⟨gT, 3, none⟩ = some (.int .u64 (wd (tb t) 3 : Nat))))
            (first
              | exact ⟨⟨x0', x1', x2', x3'⟩, A0, A1, A2, A3⟩
              | exact ⟨⟨(hbf.of_drew.cell hlX).trans x0', (hbf.of_drew.cell hlX).trans x1', (hbf.of_drew.cell hlX).trans x2', (hbf.of_drew.cell hlX).trans x3'⟩, (hbf.of_drew.cell hlT).trans A0, (hbf.of_drew.cell hlT).trans A1, (hbf.of_drew.cell hlT).trans A2, (hbf.of_drew.cell hlT).trans A3⟩
              | go_keep)
            (first
              | (go_at_call 14; (with_reducible refine (func_any t _ _ HSm.out (HE.out.keep (below_drew W))).mono ?_); rintro e wf ⟨rfl, hbf⟩; rw [HTb.out]; unfold tabV tabCells))
          go_wp2_with fail
          go_ret
          exact ⟨rfl, HBp.out.step hbf.of_drew⟩
end Go.Proofs.Ytmjpecjciibngaa
