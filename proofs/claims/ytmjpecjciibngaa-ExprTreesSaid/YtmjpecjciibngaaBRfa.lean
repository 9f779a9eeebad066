/- The reference's Count, form, Is, Same. The reference's form: each formula within is plain. The reference's form, Is, Same. -/
import Derived.Test.YtmjpecjciibngaaIs3
namespace Go.Proofs.Ytmjpecjciibngaa
open Go.RowKit
set_option linter.unusedVariables false

theorem sizeT_pos : ∀ t : Tree, 1 ≤ sizeT t
  | .node k a v ks => by simp only [sizeT]; omega
theorem sizeL_take_succ : ∀ (l : List Tree) (k : Nat) (t : Tree), l[k]? = some t → sizeL (l.take (k + 1)) = sizeL (l.take k) + sizeT t := by
  intro l k t h
  rw [List.take_add_one, h, sizeL_app]
  simp [sizeL]
theorem sizeL_take_le : ∀ (l : List Tree) (k : Nat), sizeL (l.take k) ≤ sizeL l
  | [], k => by simp
  | t :: l, 0 => by simp [sizeL]
  | t :: l, k + 1 => by
    have := sizeL_take_le l k
    simp only [List.take_succ_cons, sizeL]; omega
theorem take_len (l : List Tree) (k : Nat) (h : k ≤ l.length) : k ≤ sizeL (l.take k) := by
  have := len_le_size (l.take k)
  rw [List.length_take] at this
  omega
abbrev cntT (m : Nat) (t : Tree) : Nat := min (sizeT t) (m + 1)
set_option maxRecDepth 100000 in
set_option maxHeartbeats 2000000 in
theorem count_any : ∀ (m : Nat), m ≤ 4000 → ∀ (ok : Nat → Prop) (t : Tree) (x : Value) (w : World), ExprV ok w t x → Calls Try.prog 18 #[x, .int .i64 (m : Int)] w fun e w' => e = .returned (.int .i64 (cntT m t : Nat)) ∧ Below w.heap.size w w' := by
  intro m
  induction m using Nat.strongRecOn with
  | ind m IH =>
    intro hm ok t x w hE
    cases t with
    | node k a v ks =>
      unfold ExprV at hE
      obtain ⟨A, c, rfl, hK⟩ := hE
      have hK' : KidsV ok (w.alloc (.cells #[.int .i64 k, .int .i64 a, .int .i64 v, .slice A ks.length c] 36)) ks A 0 := KidsV.of_cells (fun p _ _ hc => ((below1 w _).cell (World.block_lt_of_cell? _ _ hc)).trans hc) ks A 0 hK
      have HI := Lib.hid IH; have HK := Lib.hid hK'
      obtain ⟨n, hn⟩ : ∃ n, ks.length = n := ⟨_, rfl⟩
      rw [hn] at HK ⊢
      have Hn := Lib.hid hn
      clear IH hK hn hK'
      obtain ⟨W, hW⟩ : ∃ W : World, W = w.alloc (.cells #[.int .i64 k, .int .i64 a, .int .i64 v, .slice A n c] 36) := ⟨_, rfl⟩
      have HX := Lib.hid (show Blk W w.heap.size 36 #[.int .i64 k, .int .i64 a, .int .i64 v, .slice A n c] from hW ▸ Blk.new w _ _)
      have HB := Lib.hid (show Below w.heap.size w W from hW ▸ below1 w _)
      have HWw := Lib.hid hW
      rw [← hW] at HK
      clear hW
      go_enter Try.func18, Try.ntmps18
      go_wp2_with fail
      rw [← HWw.out]
      go_loopw [6, 5] (fun i nn wr => ∃ j : Nat, j ≤ n ∧ i = .int .i64 j ∧ nn = .int .i64 (min (1 + sizeL (ks.take j)) (m + 1) : Nat) ∧ Below W.heap.size W wr) (fun i _ _ => n - (intOf i).toNat)
      case atStart => exact ⟨0, by omega, rfl, by simp [sizeL], Below.refl _ _⟩
      case round =>
        obtain ⟨j, hj, rfl, rfl, hb⟩ := hrel
        obtain ⟨⟨x0, x1, x2, x3⟩, _⟩ := (HX.out.keep hb).four
        have htl := take_len ks j (by have := Hn.out; omega)
        obtain ⟨q, hq⟩ : ∃ q : Nat, q = min (1 + sizeL (ks.take j)) (m + 1) := ⟨_, rfl⟩
        rw [← hq]
        have Hq := Lib.hid hq
        cases hjn : decide ((j : Int) < (n : Int))
        · simp only [decide_eq_false_iff_not] at hjn
          have hfin : q = min (sizeT (.node k a v ks)) (m + 1) := by
            rw [hq, List.take_of_length_le (by have := Hn.out; omega)]
            simp only [sizeT]; omega
          have HF := Lib.hid hfin
          clear hq htl hfin
          go_wp2_with fail
          go_ret
          exact ⟨ret_int (by rw [HF.out]), HB.out.step hb⟩
        · simp only [decide_eq_true_eq] at hjn
          cases hqm : decide ((q : Int) ≤ (m : Int))
          · simp only [decide_eq_false_iff_not] at hqm
            have hfin : q = min (sizeT (.node k a v ks)) (m + 1) := by
              have := sizeL_take_le ks j
              simp only [sizeT]; omega
            have HF := Lib.hid hfin
            clear hq htl hfin
            go_wp2_with fail
            go_ret
            exact ⟨ret_int (by rw [HF.out]), HB.out.step hb⟩
          · simp only [decide_eq_true_eq] at hqm
            obtain ⟨t, ht⟩ : ∃ t, ks[j]? = some t := ⟨ks[j]'(by have := Hn.out; omega), List.getElem?_eq_getElem _⟩
            obtain ⟨g, o, xk, xa, xv, xA, xn, xc, rfl, hg, q0, q1, q2, q3, hEt⟩ := KidsV.get _ _ _ _ HK.out ht
            have hgl := World.block_lt_of_cell? _ _ q0
            simp only at hgl
            replace q0 := (hb.cell (p := ⟨g, o + j * 4, none⟩) hgl).trans q0
            replace q1 := (hb.cell (p := ⟨g, o + j * 4 + 1, none⟩) hgl).trans q1
            replace q2 := (hb.cell (p := ⟨g, o + j * 4 + 2, none⟩) hgl).trans q2
            replace q3 := (hb.cell (p := ⟨g, o + j * 4 + 3, none⟩) hgl).trans q3
            have hpos : 1 ≤ q := by omega
            have hjq : j ≤ 4001 := by omega
            have HEt := Lib.hid (hEt.keep hb)
            have hstep := sizeL_take_succ ks j t ht
            have hp1 := sizeT_pos t
            have HSt := Lib.hid hstep
            have HC := Lib.hid (HI.out (m - q) (by omega) (by omega) ok t (.agg #[.int .i64 xk, .int .i64 xa, .int .i64 xv, .slice xA xn xc]) wr HEt.out)
            have hmq : ((m - q : Nat) : Int) = (m : Int) - (q : Int) := by omega
            have j0 : (0 : Int) ≤ (j : Int) := by omega
            have w1 : IntKind.i64.wrap ((m : Int) - (q : Int)) = ((m - q : Nat) : Int) := by rw [← hmq]; exact IntWalk.i64_in _ (by omega)
            have hjn' : (j : Int) < (n : Int) := hjn
            clear hEt ht hstep hq htl hmq
            go_wp2_with fail
            refine HC.out.mono ?_
            rintro e wc ⟨rfl, hbc⟩
            obtain ⟨z, hz⟩ : ∃ z : Nat, z = cntT (m - q) t := ⟨_, rfl⟩
            rw [← hz]
            have hzb : z ≤ 4002 := by rw [hz]; unfold cntT; omega
            have HZ := Lib.hid hz
            clear hz
            go_wp2_with fail
            go_roundw
            case measure => simp [intOf]; omega
            case rel =>
              refine ⟨j + 1, by omega, by go_num, ?_, hb.step hbc⟩
              rw [HSt.out]
              have h1 := HZ.out
              have h2 := Hq.out
              unfold cntT at h1
              go_num
end Go.Proofs.Ytmjpecjciibngaa
namespace Go.Proofs.Ytmjpecjciibngaa
open Go.RowKit
set_option linter.unusedVariables false

def FormC (t : Tree) : Prop := ∀ (ok : Nat → Prop) (x : Value) (w : World), ExprV ok w t x → Calls Try.prog 37 #[x] w fun e w' => e = .returned (.bool (allP t)) ∧ Below w.heap.size w w'
theorem FormC.call {t : Tree} (h : FormC t) (ok : Nat → Prop) (x : Value) (w : World) (hE : ExprV ok w t x) : Calls Try.prog 37 #[x] w fun e w' => e = .returned (.bool (allP t)) ∧ Below w.heap.size w w' := h ok x w hE
theorem allPL_no : ∀ (l : List Tree) (i : Nat) (t : Tree), l[i]? = some t → allP t = false → allPL l = false
  | [], i, t, h, _ => by simp at h
  | u :: us, 0, t, h, e => by cases h; unfold allPL; rw [e]; rfl
  | u :: us, i + 1, t, h, e => by unfold allPL; rw [allPL_no us i t (by simpa using h) e, Bool.and_false]
theorem allPL_yes : ∀ (l : List Tree), (∀ (i : Nat) (t : Tree), l[i]? = some t → allP t = true) → allPL l = true
  | [], _ => by unfold allPL; rfl
  | u :: us, h => by unfold allPL; rw [h 0 u rfl, allPL_yes us fun i t e => h (i + 1) t (by simpa using e)]; rfl

set_option maxRecDepth 100000 in
set_option maxHeartbeats 2000000 in
theorem form_1 (a v : Int) (ks : List Tree) (IH : ∀ t ∈ ks, FormC t) : FormC (.node 1 a v ks) := by
  intro ok x w hE
  unfold ExprV at hE
  obtain ⟨A, c, rfl, hK⟩ := hE
  have hall : allP (.node 1 a v ks) = (plainB 1 v ks.length && allPL ks) := by simp only [allP]
  obtain ⟨n, hn⟩ : ∃ n, ks.length = n := ⟨_, rfl⟩
  rw [hn] at hall ⊢
  have Hn := Lib.hid hn; have HI := Lib.hid IH; have HK := Lib.hid hK
  clear hn IH hK
  by_cases hnN : n = 0
  · subst hnN
    cases hv : decide ((0 : Int) ≤ v) <;> cases hw : decide (v ≤ 7)
    · have hp : plainB 1 v 0 = false := by
        simp only [decide_eq_false_iff_not] at hv; simp only [decide_eq_false_iff_not] at hw
        unfold plainB; simp [kidsOf, topOf]; omega
      have HF := Lib.hid (show allP (.node 1 a v ks) = false by rw [hall, hp, Bool.false_and])
      clear hall hp
      go_enter Try.func37, Try.ntmps37
      go_wp2_with fail
      go_region
      go_wp2_with fail
      go_region
      go_wp2_with fail
      go_ret
      exact ⟨ret_bool HF.out.symm, (below1 w _).drew.drew⟩
    · have hp : plainB 1 v 0 = false := by
        simp only [decide_eq_false_iff_not] at hv; simp only [decide_eq_true_eq] at hw
        unfold plainB; simp [kidsOf, topOf]; omega
      have HF := Lib.hid (show allP (.node 1 a v ks) = false by rw [hall, hp, Bool.false_and])
      clear hall hp
      go_enter Try.func37, Try.ntmps37
      go_wp2_with fail
      go_region
      go_wp2_with fail
      go_region
      go_wp2_with fail
      go_ret
      exact ⟨ret_bool HF.out.symm, (below1 w _).drew.drew⟩
    · have hp : plainB 1 v 0 = false := by
        simp only [decide_eq_true_eq] at hv; simp only [decide_eq_false_iff_not] at hw
        unfold plainB; simp [kidsOf, topOf]; omega
      have HF := Lib.hid (show allP (.node 1 a v ks) = false by rw [hall, hp, Bool.false_and])
      clear hall hp
      go_enter Try.func37, Try.ntmps37
      go_wp2_with fail
      go_region
      go_wp2_with fail
      go_region
      go_wp2_with fail
      go_ret
      exact ⟨ret_bool HF.out.symm, (below1 w _).drew.drew⟩
    · have hp : plainB 1 v 0 = true := by
        simp only [decide_eq_true_eq] at hv; simp only [decide_eq_true_eq] at hw
        unfold plainB; simp [kidsOf, topOf]; omega
      have HF := Lib.hid (show allP (.node 1 a v ks) = allPL ks by rw [hall, hp, Bool.true_and])
      clear hall hp
      obtain ⟨W, hW⟩ : ∃ W : World, W = w.alloc (.cells #[.int .i64 1, .int .i64 a, .int .i64 v, .slice A 0 c] 36) := ⟨_, rfl⟩
      have HX := Lib.hid (show Blk W w.heap.size 36 #[.int .i64 1, .int .i64 a, .int .i64 v, .slice A 0 c] from hW ▸ Blk.new w _ _)
      have HB := Lib.hid (show Below w.heap.size w W from hW ▸ below1 w _)
      have HKW := Lib.hid (show KidsV ok W ks A 0 from KidsV.of_cells (fun p _ _ hc => (HB.out.cell (World.block_lt_of_cell? _ _ hc)).trans hc) ks A 0 HK.out)
      have HWw := Lib.hid hW
      clear hW
      go_enter Try.func37, Try.ntmps37
      go_wp2_with fail
      go_region
      go_wp2_with fail
      go_region
      go_wp2_with fail
      rw [← HWw.out]
      go_loopw [5] (fun i wr => ∃ j : Nat, j ≤ 0 ∧ i = .int .i64 j ∧ Below W.heap.size W wr ∧ ∀ (i : Nat) (t : Tree), i < j → ks[i]? = some t → allP t = true) (fun i _ => 0 - (intOf i).toNat)
      case atStart => exact ⟨0, by omega, rfl, (Below.refl _ _).drew.drew, fun i t hi => absurd hi (by omega)⟩
      case round =>
        obtain ⟨j, hj, rfl, hb, hall⟩ := hrel
        obtain ⟨⟨x0, x1, x2, x3⟩, _⟩ := (HX.out.keep hb).four
        have HAll := Lib.hid hall
        clear hall
        by_cases hjn : j < 0
        · exact absurd hjn (by omega)
        · obtain rfl : j = 0 := by omega
          have hR := allPL_yes ks fun i t h1 => HAll.out i t (by
            rcases Nat.lt_or_ge i 0 with h | h
            · exact h
            · rw [List.getElem?_eq_none (by have := Hn.out; omega)] at h1; cases h1) h1
          have HR := Lib.hid hR
          clear hR
          go_wp2_with fail
          go_ret
          exact ⟨ret_bool (by rw [HF.out, HR.out]), HB.out.step hb⟩
  · have hp : plainB 1 v n = false := by unfold plainB; simp [kidsOf, topOf]; omega
    have HF := Lib.hid (show allP (.node 1 a v ks) = false by rw [hall, hp, Bool.false_and])
    have hni : ((n : Int) != 0) = true := by simp; omega
    clear hall hp
    cases hv : decide ((0 : Int) ≤ v) <;> cases hw : decide (v ≤ 7)
    all_goals
      go_enter Try.func37, Try.ntmps37
      go_wp2_with fail
      go_region
      go_wp2_with fail
      go_region
      go_wp2_with fail
      go_ret
      exact ⟨ret_bool HF.out.symm, (below1 w _).drew.drew⟩

set_option maxRecDepth 100000 in
set_option maxHeartbeats 2000000 in
theorem form_2 (a v : Int) (ks : List Tree) (IH : ∀ t ∈ ks, FormC t) : FormC (.node 2 a v ks) := by
  intro ok x w hE
  unfold ExprV at hE
  obtain ⟨A, c, rfl, hK⟩ := hE
  have hall : allP (.node 2 a v ks) = (plainB 2 v ks.length && allPL ks) := by simp only [allP]
  obtain ⟨n, hn⟩ : ∃ n, ks.length = n := ⟨_, rfl⟩
  rw [hn] at hall ⊢
  have Hn := Lib.hid hn; have HI := Lib.hid IH; have HK := Lib.hid hK
  clear hn IH hK
  by_cases hnN : n = 0
  · subst hnN
    cases hv : (v == 0) <;> cases hw : (v == 1)
    · have hp : plainB 2 v 0 = false := by
        simp only [beq_eq_false_iff_ne, ne_eq] at hv; simp only [beq_eq_false_iff_ne, ne_eq] at hw
        unfold plainB; simp [kidsOf, topOf]; omega
      have HF := Lib.hid (show allP (.node 2 a v ks) = false by rw [hall, hp, Bool.false_and])
      clear hall hp
      go_enter Try.func37, Try.ntmps37
      go_wp2_with fail
      go_region
      go_wp2_with fail
      go_region
      go_wp2_with fail
      go_ret
      exact ⟨ret_bool HF.out.symm, (below1 w _).drew.drew⟩
    · have hp : plainB 2 v 0 = true := by
        simp only [beq_eq_false_iff_ne, ne_eq] at hv; simp only [beq_iff_eq] at hw
        unfold plainB; simp [kidsOf, topOf]; omega
      have HF := Lib.hid (show allP (.node 2 a v ks) = allPL ks by rw [hall, hp, Bool.true_and])
      clear hall hp
      obtain ⟨W, hW⟩ : ∃ W : World, W = w.alloc (.cells #[.int .i64 2, .int .i64 a, .int .i64 v, .slice A 0 c] 36) := ⟨_, rfl⟩
      have HX := Lib.hid (show Blk W w.heap.size 36 #[.int .i64 2, .int .i64 a, .int .i64 v, .slice A 0 c] from hW ▸ Blk.new w _ _)
      have HB := Lib.hid (show Below w.heap.size w W from hW ▸ below1 w _)
      have HKW := Lib.hid (show KidsV ok W ks A 0 from KidsV.of_cells (fun p _ _ hc => (HB.out.cell (World.block_lt_of_cell? _ _ hc)).trans hc) ks A 0 HK.out)
      have HWw := Lib.hid hW
      clear hW
      go_enter Try.func37, Try.ntmps37
      go_wp2_with fail
      go_region
      go_wp2_with fail
      go_region
      go_wp2_with fail
      rw [← HWw.out]
      go_loopw [5] (fun i wr => ∃ j : Nat, j ≤ 0 ∧ i = .int .i64 j ∧ Below W.heap.size W wr ∧ ∀ (i : Nat) (t : Tree), i < j → ks[i]? = some t → allP t = true) (fun i _ => 0 - (intOf i).toNat)
      case atStart => exact ⟨0, by omega, rfl, (Below.refl _ _).drew.drew, fun i t hi => absurd hi (by omega)⟩
      case round =>
        obtain ⟨j, hj, rfl, hb, hall⟩ := hrel
        obtain ⟨⟨x0, x1, x2, x3⟩, _⟩ := (HX.out.keep hb).four
        have HAll := Lib.hid hall
        clear hall
        by_cases hjn : j < 0
        · exact absurd hjn (by omega)
        · obtain rfl : j = 0 := by omega
          have hR := allPL_yes ks fun i t h1 => HAll.out i t (by
            rcases Nat.lt_or_ge i 0 with h | h
            · exact h
            · rw [List.getElem?_eq_none (by have := Hn.out; omega)] at h1; cases h1) h1
          have HR := Lib.hid hR
          clear hR
          go_wp2_with fail
          go_ret
          exact ⟨ret_bool (by rw [HF.out, HR.out]), HB.out.step hb⟩
    · have hp : plainB 2 v 0 = true := by
        simp only [beq_iff_eq] at hv; simp only [beq_eq_false_iff_ne, ne_eq] at hw
        unfold plainB; simp [kidsOf, topOf]; omega
      have HF := Lib.hid (show allP (.node 2 a v ks) = allPL ks by rw [hall, hp, Bool.true_and])
      clear hall hp
      obtain ⟨W, hW⟩ : ∃ W : World, W = w.alloc (.cells #[.int .i64 2, .int .i64 a, .int .i64 v, .slice A 0 c] 36) := ⟨_, rfl⟩
      have HX := Lib.hid (show Blk W w.heap.size 36 #[.int .i64 2, .int .i64 a, .int .i64 v, .slice A 0 c] from hW ▸ Blk.new w _ _)
      have HB := Lib.hid (show Below w.heap.size w W from hW ▸ below1 w _)
      have HKW := Lib.hid (show KidsV ok W ks A 0 from KidsV.of_cells (fun p _ _ hc => (HB.out.cell (World.block_lt_of_cell? _ _ hc)).trans hc) ks A 0 HK.out)
      have HWw := Lib.hid hW
      clear hW
      go_enter Try.func37, Try.ntmps37
      go_wp2_with fail
      go_region
      go_wp2_with fail
      go_region
      go_wp2_with fail
      rw [← HWw.out]
      go_loopw [5] (fun i wr => ∃ j : Nat, j ≤ 0 ∧ i = .int .i64 j ∧ Below W.heap.size W wr ∧ ∀ (i : Nat) (t : Tree), i < j → ks[i]? = some t → allP t = true) (fun i _ => 0 - (intOf i).toNat)
      case atStart => exact ⟨0, by omega, rfl, (Below.refl _ _).drew.drew, fun i t hi => absurd hi (by omega)⟩
      case round =>
        obtain ⟨j, hj, rfl, hb, hall⟩ := hrel
        obtain ⟨⟨x0, x1, x2, x3⟩, _⟩ := (HX.out.keep hb).four
        have HAll := Lib.hid hall
        clear hall
        by_cases hjn : j < 0
        · exact absurd hjn (by omega)
        · obtain rfl : j = 0 := by omega
          have hR := allPL_yes ks fun i t h1 => HAll.out i t (by
            rcases Nat.lt_or_ge i 0 with h | h
            · exact h
            · rw [List.getElem?_eq_none (by have := Hn.out; omega)] at h1; cases h1) h1
          have HR := Lib.hid hR
          clear hR
          go_wp2_with fail
          go_ret
          exact ⟨ret_bool (by rw [HF.out, HR.out]), HB.out.step hb⟩
    · have hp : plainB 2 v 0 = true := by
        simp only [beq_iff_eq] at hv; simp only [beq_iff_eq] at hw
        unfold plainB; simp [kidsOf, topOf]; omega
      have HF := Lib.hid (show allP (.node 2 a v ks) = allPL ks by rw [hall, hp, Bool.true_and])
      clear hall hp
      obtain ⟨W, hW⟩ : ∃ W : World, W = w.alloc (.cells #[.int .i64 2, .int .i64 a, .int .i64 v, .slice A 0 c] 36) := ⟨_, rfl⟩
      have HX := Lib.hid (show Blk W w.heap.size 36 #[.int .i64 2, .int .i64 a, .int .i64 v, .slice A 0 c] from hW ▸ Blk.new w _ _)
      have HB := Lib.hid (show Below w.heap.size w W from hW ▸ below1 w _)
      have HKW := Lib.hid (show KidsV ok W ks A 0 from KidsV.of_cells (fun p _ _ hc => (HB.out.cell (World.block_lt_of_cell? _ _ hc)).trans hc) ks A 0 HK.out)
      have HWw := Lib.hid hW
      clear hW
      go_enter Try.func37, Try.ntmps37
      go_wp2_with fail
      go_region
      go_wp2_with fail
      go_region
      go_wp2_with fail
      rw [← HWw.out]
      go_loopw [5] (fun i wr => ∃ j : Nat, j ≤ 0 ∧ i = .int .i64 j ∧ Below W.heap.size W wr ∧ ∀ (i : Nat) (t : Tree), i < j → ks[i]? = some t → allP t = true) (fun i _ => 0 - (intOf i).toNat)
      case atStart => exact ⟨0, by omega, rfl, (Below.refl _ _).drew.drew, fun i t hi => absurd hi (by omega)⟩
      case round =>
        obtain ⟨j, hj, rfl, hb, hall⟩ := hrel
        obtain ⟨⟨x0, x1, x2, x3⟩, _⟩ := (HX.out.keep hb).four
        have HAll := Lib.hid hall
        clear hall
        by_cases hjn : j < 0
        · exact absurd hjn (by omega)
        · obtain rfl : j = 0 := by omega
          have hR := allPL_yes ks fun i t h1 => HAll.out i t (by
            rcases Nat.lt_or_ge i 0 with h | h
            · exact h
            · rw [List.getElem?_eq_none (by have := Hn.out; omega)] at h1; cases h1) h1
          have HR := Lib.hid hR
          clear hR
          go_wp2_with fail
          go_ret
          exact ⟨ret_bool (by rw [HF.out, HR.out]), HB.out.step hb⟩
  · have hp : plainB 2 v n = false := by unfold plainB; simp [kidsOf, topOf]; omega
    have HF := Lib.hid (show allP (.node 2 a v ks) = false by rw [hall, hp, Bool.false_and])
    have hni : ((n : Int) != 0) = true := by simp; omega
    clear hall hp
    cases hv : (v == 0) <;> cases hw : (v == 1)
    all_goals
      go_enter Try.func37, Try.ntmps37
      go_wp2_with fail
      go_region
      go_wp2_with fail
      go_region
      go_wp2_with fail
      go_ret
      exact ⟨ret_bool HF.out.symm, (below1 w _).drew.drew⟩

set_option maxRecDepth 100000 in
set_option maxHeartbeats 2000000 in
theorem form_3 (a v : Int) (ks : List Tree) (IH : ∀ t ∈ ks, FormC t) : FormC (.node 3 a v ks) := by
  intro ok x w hE
  unfold ExprV at hE
  obtain ⟨A, c, rfl, hK⟩ := hE
  have hall : allP (.node 3 a v ks) = (plainB 3 v ks.length && allPL ks) := by simp only [allP]
  obtain ⟨n, hn⟩ : ∃ n, ks.length = n := ⟨_, rfl⟩
  rw [hn] at hall ⊢
  have Hn := Lib.hid hn; have HI := Lib.hid IH; have HK := Lib.hid hK
  clear hn IH hK
  by_cases hnN : n = 1
  · subst hnN
    cases hv : (v == 0)
    · have hp : plainB 3 v 1 = false := by
        simp only [beq_eq_false_iff_ne, ne_eq] at hv
        unfold plainB; simp [kidsOf, topOf]; omega
      have HF := Lib.hid (show allP (.node 3 a v ks) = false by rw [hall, hp, Bool.false_and])
      clear hall hp
      go_enter Try.func37, Try.ntmps37
      go_wp2_with fail
      go_region
      go_wp2_with fail
      go_ret
      exact ⟨ret_bool HF.out.symm, (below1 w _).drew⟩
    · have hp : plainB 3 v 1 = true := by
        simp only [beq_iff_eq] at hv
        unfold plainB; simp [kidsOf, topOf]; omega
      have HF := Lib.hid (show allP (.node 3 a v ks) = allPL ks by rw [hall, hp, Bool.true_and])
      clear hall hp
      obtain ⟨W, hW⟩ : ∃ W : World, W = w.alloc (.cells #[.int .i64 3, .int .i64 a, .int .i64 v, .slice A 1 c] 36) := ⟨_, rfl⟩
      have HX := Lib.hid (show Blk W w.heap.size 36 #[.int .i64 3, .int .i64 a, .int .i64 v, .slice A 1 c] from hW ▸ Blk.new w _ _)
      have HB := Lib.hid (show Below w.heap.size w W from hW ▸ below1 w _)
      have HKW := Lib.hid (show KidsV ok W ks A 0 from KidsV.of_cells (fun p _ _ hc => (HB.out.cell (World.block_lt_of_cell? _ _ hc)).trans hc) ks A 0 HK.out)
      have HWw := Lib.hid hW
      clear hW
      go_enter Try.func37, Try.ntmps37
      go_wp2_with fail
      go_region
      go_wp2_with fail
      rw [← HWw.out]
      go_loopw [5] (fun i wr => ∃ j : Nat, j ≤ 1 ∧ i = .int .i64 j ∧ Below W.heap.size W wr ∧ ∀ (i : Nat) (t : Tree), i < j → ks[i]? = some t → allP t = true) (fun i _ => 1 - (intOf i).toNat)
      case atStart => exact ⟨0, by omega, rfl, (Below.refl _ _).drew, fun i t hi => absurd hi (by omega)⟩
      case round =>
        obtain ⟨j, hj, rfl, hb, hall⟩ := hrel
        obtain ⟨⟨x0, x1, x2, x3⟩, _⟩ := (HX.out.keep hb).four
        have HAll := Lib.hid hall
        clear hall
        by_cases hjn : j < 1
        · obtain ⟨t, ht⟩ : ∃ t, ks[j]? = some t := ⟨ks[j]'(by have := Hn.out; omega), List.getElem?_eq_getElem _⟩
          obtain ⟨g, o, xk, xa, xv, xA, xn, xc, rfl, hg, q0, q1, q2, q3, hEt⟩ := KidsV.get _ _ _ _ HKW.out ht
          have hgl := World.block_lt_of_cell? _ _ q0
          simp only at hgl
          replace q0 := (hb.cell (p := ⟨g, o + j * 4, none⟩) hgl).trans q0
          replace q1 := (hb.cell (p := ⟨g, o + j * 4 + 1, none⟩) hgl).trans q1
          replace q2 := (hb.cell (p := ⟨g, o + j * 4 + 2, none⟩) hgl).trans q2
          replace q3 := (hb.cell (p := ⟨g, o + j * 4 + 3, none⟩) hgl).trans q3
          have HEt := Lib.hid (hEt.keep hb)
          have HC := Lib.hid (HI.out t (List.mem_of_getElem? ht))
          have j0 : (0 : Int) ≤ (j : Int) := by omega
          have j1 : (j : Int) < 1 := by omega
          have HT := Lib.hid ht
          clear hEt ht
          go_wp2_with fail
          refine (HC.out.call ok _ _ HEt.out).mono ?_
          rintro e wc ⟨rfl, hbc⟩
          have hB := HB.out.step (hb.step hbc)
          cases hs : allP t
          · have HR := Lib.hid (allPL_no ks j t HT.out hs)
            clear hs
            go_wp2_with fail
            go_ret
            exact ⟨ret_bool (by rw [HF.out, HR.out]), hB⟩
          · have HS := Lib.hid hs
            clear hs
            go_wp2_with fail
            go_roundw
            case measure => simp [intOf]; omega
            case rel =>
              refine ⟨j + 1, by omega, by go_num, hb.step hbc, fun i t' hi h1 => ?_⟩
              by_cases hij : i < j
              · exact HAll.out i t' hij h1
              · obtain rfl : i = j := by omega
                rw [HT.out] at h1; cases h1
                exact HS.out
        · obtain rfl : j = 1 := by omega
          have hR := allPL_yes ks fun i t h1 => HAll.out i t (by
            rcases Nat.lt_or_ge i 1 with h | h
            · exact h
            · rw [List.getElem?_eq_none (by have := Hn.out; omega)] at h1; cases h1) h1
          have HR := Lib.hid hR
          clear hR
          go_wp2_with fail
          go_ret
          exact ⟨ret_bool (by rw [HF.out, HR.out]), HB.out.step hb⟩
  · have hp : plainB 3 v n = false := by unfold plainB; simp [kidsOf, topOf]; omega
    have HF := Lib.hid (show allP (.node 3 a v ks) = false by rw [hall, hp, Bool.false_and])
    have hni : ((n : Int) != 1) = true := by simp; omega
    clear hall hp
    cases hv : (v == 0)
    all_goals
      go_enter Try.func37, Try.ntmps37
      go_wp2_with fail
      go_region
      go_wp2_with fail
      go_ret
      exact ⟨ret_bool HF.out.symm, (below1 w _).drew⟩

set_option maxRecDepth 100000 in
set_option maxHeartbeats 2000000 in
theorem form_10 (a v : Int) (ks : List Tree) (IH : ∀ t ∈ ks, FormC t) : FormC (.node 10 a v ks) := by
  intro ok x w hE
  unfold ExprV at hE
  obtain ⟨A, c, rfl, hK⟩ := hE
  have hall : allP (.node 10 a v ks) = (plainB 10 v ks.length && allPL ks) := by simp only [allP]
  obtain ⟨n, hn⟩ : ∃ n, ks.length = n := ⟨_, rfl⟩
  rw [hn] at hall ⊢
  have Hn := Lib.hid hn; have HI := Lib.hid IH; have HK := Lib.hid hK
  clear hn IH hK
  by_cases hnN : n = 1
  · subst hnN
    cases hv : decide ((0 : Int) ≤ v) <;> cases hw : decide (v ≤ 7)
    · have hp : plainB 10 v 1 = false := by
        simp only [decide_eq_false_iff_not] at hv; simp only [decide_eq_false_iff_not] at hw
        unfold plainB; simp [kidsOf, topOf]; omega
      have HF := Lib.hid (show allP (.node 10 a v ks) = false by rw [hall, hp, Bool.false_and])
      clear hall hp
      go_enter Try.func37, Try.ntmps37
      go_wp2_with fail
      go_region
      go_wp2_with fail
      go_region
      go_wp2_with fail
      go_ret
      exact ⟨ret_bool HF.out.symm, (below1 w _).drew.drew⟩
    · have hp : plainB 10 v 1 = false := by
        simp only [decide_eq_false_iff_not] at hv; simp only [decide_eq_true_eq] at hw
        unfold plainB; simp [kidsOf, topOf]; omega
      have HF := Lib.hid (show allP (.node 10 a v ks) = false by rw [hall, hp, Bool.false_and])
      clear hall hp
      go_enter Try.func37, Try.ntmps37
      go_wp2_with fail
      go_region
      go_wp2_with fail
      go_region
      go_wp2_with fail
      go_ret
      exact ⟨ret_bool HF.out.symm, (below1 w _).drew.drew⟩
    · have hp : plainB 10 v 1 = false := by
        simp only [decide_eq_true_eq] at hv; simp only [decide_eq_false_iff_not] at hw
        unfold plainB; simp [kidsOf, topOf]; omega
      have HF := Lib.hid (show allP (.node 10 a v ks) = false by rw [hall, hp, Bool.false_and])
      clear hall hp
      go_enter Try.func37, Try.ntmps37
      go_wp2_with fail
      go_region
      go_wp2_with fail
      go_region
      go_wp2_with fail
      go_ret
      exact ⟨ret_bool HF.out.symm, (below1 w _).drew.drew⟩
    · have hp : plainB 10 v 1 = true := by
        simp only [decide_eq_true_eq] at hv; simp only [decide_eq_true_eq] at hw
        unfold plainB; simp [kidsOf, topOf]; omega
      have HF := Lib.hid (show allP (.node 10 a v ks) = allPL ks by rw [hall, hp, Bool.true_and])
      clear hall hp
      obtain ⟨W, hW⟩ : ∃ W : World, W = w.alloc (.cells #[.int .i64 10, .int .i64 a, .int .i64 v, .slice A 1 c] 36) := ⟨_, rfl⟩
      have HX := Lib.hid (show Blk W w.heap.size 36 #[.int .i64 10, .int .i64 a, .int .i64 v, .slice A 1 c] from hW ▸ Blk.new w _ _)
      have HB := Lib.hid (show Below w.heap.size w W from hW ▸ below1 w _)
      have HKW := Lib.hid (show KidsV ok W ks A 0 from KidsV.of_cells (fun p _ _ hc => (HB.out.cell (World.block_lt_of_cell? _ _ hc)).trans hc) ks A 0 HK.out)
      have HWw := Lib.hid hW
      clear hW
      go_enter Try.func37, Try.ntmps37
      go_wp2_with fail
      go_region
      go_wp2_with fail
      go_region
      go_wp2_with fail
      rw [← HWw.out]
      go_loopw [5] (fun i wr => ∃ j : Nat, j ≤ 1 ∧ i = .int .i64 j ∧ Below W.heap.size W wr ∧ ∀ (i : Nat) (t : Tree), i < j → ks[i]? = some t → allP t = true) (fun i _ => 1 - (intOf i).toNat)
      case atStart => exact ⟨0, by omega, rfl, (Below.refl _ _).drew.drew, fun i t hi => absurd hi (by omega)⟩
      case round =>
        obtain ⟨j, hj, rfl, hb, hall⟩ := hrel
        obtain ⟨⟨x0, x1, x2, x3⟩, _⟩ := (HX.out.keep hb).four
        have HAll := Lib.hid hall
        clear hall
        by_cases hjn : j < 1
        · obtain ⟨t, ht⟩ : ∃ t, ks[j]? = some t := ⟨ks[j]'(by have := Hn.out; omega), List.getElem?_eq_getElem _⟩
          obtain ⟨g, o, xk, xa, xv, xA, xn, xc, rfl, hg, q0, q1, q2, q3, hEt⟩ := KidsV.get _ _ _ _ HKW.out ht
          have hgl := World.block_lt_of_cell? _ _ q0
          simp only at hgl
          replace q0 := (hb.cell (p := ⟨g, o + j * 4, none⟩) hgl).trans q0
          replace q1 := (hb.cell (p := ⟨g, o + j * 4 + 1, none⟩) hgl).trans q1
          replace q2 := (hb.cell (p := ⟨g, o + j * 4 + 2, none⟩) hgl).trans q2
          replace q3 := (hb.cell (p := ⟨g, o + j * 4 + 3, none⟩) hgl).trans q3
          have HEt := Lib.hid (hEt.keep hb)
          have HC := Lib.hid (HI.out t (List.mem_of_getElem? ht))
          have j0 : (0 : Int) ≤ (j : Int) := by omega
          have j1 : (j : Int) < 1 := by omega
          have HT := Lib.hid ht
          clear hEt ht
          go_wp2_with fail
          refine (HC.out.call ok _ _ HEt.out).mono ?_
          rintro e wc ⟨rfl, hbc⟩
          have hB := HB.out.step (hb.step hbc)
          cases hs : allP t
          · have HR := Lib.hid (allPL_no ks j t HT.out hs)
            clear hs
            go_wp2_with fail
            go_ret
            exact ⟨ret_bool (by rw [HF.out, HR.out]), hB⟩
          · have HS := Lib.hid hs
            clear hs
            go_wp2_with fail
            go_roundw
            case measure => simp [intOf]; omega
            case rel =>
              refine ⟨j + 1, by omega, by go_num, hb.step hbc, fun i t' hi h1 => ?_⟩
              by_cases hij : i < j
              · exact HAll.out i t' hij h1
              · obtain rfl : i = j := by omega
                rw [HT.out] at h1; cases h1
                exact HS.out
        · obtain rfl : j = 1 := by omega
          have hR := allPL_yes ks fun i t h1 => HAll.out i t (by
            rcases Nat.lt_or_ge i 1 with h | h
            · exact h
            · rw [List.getElem?_eq_none (by have := Hn.out; omega)] at h1; cases h1) h1
          have HR := Lib.hid hR
          clear hR
          go_wp2_with fail
          go_ret
          exact ⟨ret_bool (by rw [HF.out, HR.out]), HB.out.step hb⟩
  · have hp : plainB 10 v n = false := by unfold plainB; simp [kidsOf, topOf]; omega
    have HF := Lib.hid (show allP (.node 10 a v ks) = false by rw [hall, hp, Bool.false_and])
    have hni : ((n : Int) != 1) = true := by simp; omega
    clear hall hp
    cases hv : decide ((0 : Int) ≤ v) <;> cases hw : decide (v ≤ 7)
    all_goals
      go_enter Try.func37, Try.ntmps37
      go_wp2_with fail
      go_region
      go_wp2_with fail
      go_region
      go_wp2_with fail
      go_ret
      exact ⟨ret_bool HF.out.symm, (below1 w _).drew.drew⟩

set_option maxRecDepth 100000 in
set_option maxHeartbeats 2000000 in
theorem form_11 (a v : Int) (ks : List Tree) (IH : ∀ t ∈ ks, FormC t) : FormC (.node 11 a v ks) := by
  intro ok x w hE
  unfold ExprV at hE
  obtain ⟨A, c, rfl, hK⟩ := hE
  have hall : allP (.node 11 a v ks) = (plainB 11 v ks.length && allPL ks) := by simp only [allP]
  obtain ⟨n, hn⟩ : ∃ n, ks.length = n := ⟨_, rfl⟩
  rw [hn] at hall ⊢
  have Hn := Lib.hid hn; have HI := Lib.hid IH; have HK := Lib.hid hK
  clear hn IH hK
  by_cases hnN : n = 1
  · subst hnN
    cases hv : decide ((0 : Int) ≤ v) <;> cases hw : decide (v ≤ 7)
    · have hp : plainB 11 v 1 = false := by
        simp only [decide_eq_false_iff_not] at hv; simp only [decide_eq_false_iff_not] at hw
        unfold plainB; simp [kidsOf, topOf]; omega
      have HF := Lib.hid (show allP (.node 11 a v ks) = false by rw [hall, hp, Bool.false_and])
      clear hall hp
      go_enter Try.func37, Try.ntmps37
      go_wp2_with fail
      go_region
      go_wp2_with fail
      go_region
      go_wp2_with fail
      go_ret
      exact ⟨ret_bool HF.out.symm, (below1 w _).drew.drew⟩
    · have hp : plainB 11 v 1 = false := by
        simp only [decide_eq_false_iff_not] at hv; simp only [decide_eq_true_eq] at hw
        unfold plainB; simp [kidsOf, topOf]; omega
      have HF := Lib.hid (show allP (.node 11 a v ks) = false by rw [hall, hp, Bool.false_and])
      clear hall hp
      go_enter Try.func37, Try.ntmps37
      go_wp2_with fail
      go_region
      go_wp2_with fail
      go_region
      go_wp2_with fail
      go_ret
      exact ⟨ret_bool HF.out.symm, (below1 w _).drew.drew⟩
    · have hp : plainB 11 v 1 = false := by
        simp only [decide_eq_true_eq] at hv; simp only [decide_eq_false_iff_not] at hw
        unfold plainB; simp [kidsOf, topOf]; omega
      have HF := Lib.hid (show allP (.node 11 a v ks) = false by rw [hall, hp, Bool.false_and])
      clear hall hp
      go_enter Try.func37, Try.ntmps37
      go_wp2_with fail
      go_region
      go_wp2_with fail
      go_region
      go_wp2_with fail
      go_ret
      exact ⟨ret_bool HF.out.symm, (below1 w _).drew.drew⟩
    · have hp : plainB 11 v 1 = true := by
        simp only [decide_eq_true_eq] at hv; simp only [decide_eq_true_eq] at hw
        unfold plainB; simp [kidsOf, topOf]; omega
      have HF := Lib.hid (show allP (.node 11 a v ks) = allPL ks by rw [hall, hp, Bool.true_and])
      clear hall hp
      obtain ⟨W, hW⟩ : ∃ W : World, W = w.alloc (.cells #[.int .i64 11, .int .i64 a, .int .i64 v, .slice A 1 c] 36) := ⟨_, rfl⟩
      have HX := Lib.hid (show Blk W w.heap.size 36 #[.int .i64 11, .int .i64 a, .int .i64 v, .slice A 1 c] from hW ▸ Blk.new w _ _)
      have HB := Lib.hid (show Below w.heap.size w W from hW ▸ below1 w _)
      have HKW := Lib.hid (show KidsV ok W ks A 0 from KidsV.of_cells (fun p _ _ hc => (HB.out.cell (World.block_lt_of_cell? _ _ hc)).trans hc) ks A 0 HK.out)
      have HWw := Lib.hid hW
      clear hW
      go_enter Try.func37, Try.ntmps37
      go_wp2_with fail
      go_region
      go_wp2_with fail
      go_region
      go_wp2_with fail
      rw [← HWw.out]
      go_loopw [5] (fun i wr => ∃ j : Nat, j ≤ 1 ∧ i = .int .i64 j ∧ Below W.heap.size W wr ∧ ∀ (i : Nat) (t : Tree), i < j → ks[i]? = some t → allP t = true) (fun i _ => 1 - (intOf i).toNat)
      case atStart => exact ⟨0, by omega, rfl, (Below.refl _ _).drew.drew, fun i t hi => absurd hi (by omega)⟩
      case round =>
        obtain ⟨j, hj, rfl, hb, hall⟩ := hrel
        obtain ⟨⟨x0, x1, x2, x3⟩, _⟩ := (HX.out.keep hb).four
        have HAll := Lib.hid hall
        clear hall
        by_cases hjn : j < 1
        · obtain ⟨t, ht⟩ : ∃ t, ks[j]? = some t := ⟨ks[j]'(by have := Hn.out; omega), List.getElem?_eq_getElem _⟩
          obtain ⟨g, o, xk, xa, xv, xA, xn, xc, rfl, hg, q0, q1, q2, q3, hEt⟩ := KidsV.get _ _ _ _ HKW.out ht
          have hgl := World.block_lt_of_cell? _ _ q0
          simp only at hgl
          replace q0 := (hb.cell (p := ⟨g, o + j * 4, none⟩) hgl).trans q0
          replace q1 := (hb.cell (p := ⟨g, o + j * 4 + 1, none⟩) hgl).trans q1
          replace q2 := (hb.cell (p := ⟨g, o + j * 4 + 2, none⟩) hgl).trans q2
          replace q3 := (hb.cell (p := ⟨g, o + j * 4 + 3, none⟩) hgl).trans q3
          have HEt := Lib.hid (hEt.keep hb)
          have HC := Lib.hid (HI.out t (List.mem_of_getElem? ht))
          have j0 : (0 : Int) ≤ (j : Int) := by omega
          have j1 : (j : Int) < 1 := by omega
          have HT := Lib.hid ht
          clear hEt ht
          go_wp2_with fail
          refine (HC.out.call ok _ _ HEt.out).mono ?_
          rintro e wc ⟨rfl, hbc⟩
          have hB := HB.out.step (hb.step hbc)
          cases hs : allP t
          · have HR := Lib.hid (allPL_no ks j t HT.out hs)
            clear hs
            go_wp2_with fail
            go_ret
            exact ⟨ret_bool (by rw [HF.out, HR.out]), hB⟩
          · have HS := Lib.hid hs
            clear hs
            go_wp2_with fail
            go_roundw
            case measure => simp [intOf]; omega
            case rel =>
              refine ⟨j + 1, by omega, by go_num, hb.step hbc, fun i t' hi h1 => ?_⟩
              by_cases hij : i < j
              · exact HAll.out i t' hij h1
              · obtain rfl : i = j := by omega
                rw [HT.out] at h1; cases h1
                exact HS.out
        · obtain rfl : j = 1 := by omega
          have hR := allPL_yes ks fun i t h1 => HAll.out i t (by
            rcases Nat.lt_or_ge i 1 with h | h
            · exact h
            · rw [List.getElem?_eq_none (by have := Hn.out; omega)] at h1; cases h1) h1
          have HR := Lib.hid hR
          clear hR
          go_wp2_with fail
          go_ret
          exact ⟨ret_bool (by rw [HF.out, HR.out]), HB.out.step hb⟩
  · have hp : plainB 11 v n = false := by unfold plainB; simp [kidsOf, topOf]; omega
    have HF := Lib.hid (show allP (.node 11 a v ks) = false by rw [hall, hp, Bool.false_and])
    have hni : ((n : Int) != 1) = true := by simp; omega
    clear hall hp
    cases hv : decide ((0 : Int) ≤ v) <;> cases hw : decide (v ≤ 7)
    all_goals
      go_enter Try.func37, Try.ntmps37
      go_wp2_with fail
      go_region
      go_wp2_with fail
      go_region
      go_wp2_with fail
      go_ret
      exact ⟨ret_bool HF.out.symm, (below1 w _).drew.drew⟩

set_option maxRecDepth 100000 in
set_option maxHeartbeats 2000000 in
theorem form_9 (a v : Int) (ks : List Tree) (IH : ∀ t ∈ ks, FormC t) : FormC (.node 9 a v ks) := by
  intro ok x w hE
  unfold ExprV at hE
  obtain ⟨A, c, rfl, hK⟩ := hE
  have hall : allP (.node 9 a v ks) = (plainB 9 v ks.length && allPL ks) := by simp only [allP]
  obtain ⟨n, hn⟩ : ∃ n, ks.length = n := ⟨_, rfl⟩
  rw [hn] at hall ⊢
  have Hn := Lib.hid hn; have HI := Lib.hid IH; have HK := Lib.hid hK
  clear hn IH hK
  by_cases hnN : n = 3
  · subst hnN
    cases hv : (v == 0)
    · have hp : plainB 9 v 3 = false := by
        simp only [beq_eq_false_iff_ne, ne_eq] at hv
        unfold plainB; simp [kidsOf, topOf]; omega
      have HF := Lib.hid (show allP (.node 9 a v ks) = false by rw [hall, hp, Bool.false_and])
      clear hall hp
      go_enter Try.func37, Try.ntmps37
      go_wp2_with fail
      go_region
      go_wp2_with fail
      go_ret
      exact ⟨ret_bool HF.out.symm, (below1 w _).drew⟩
    · have hp : plainB 9 v 3 = true := by
        simp only [beq_iff_eq] at hv
        unfold plainB; simp [kidsOf, topOf]; omega
      have HF := Lib.hid (show allP (.node 9 a v ks) = allPL ks by rw [hall, hp, Bool.true_and])
      clear hall hp
      obtain ⟨W, hW⟩ : ∃ W : World, W = w.alloc (.cells #[.int .i64 9, .int .i64 a, .int .i64 v, .slice A 3 c] 36) := ⟨_, rfl⟩
      have HX := Lib.hid (show Blk W w.heap.size 36 #[.int .i64 9, .int .i64 a, .int .i64 v, .slice A 3 c] from hW ▸ Blk.new w _ _)
      have HB := Lib.hid (show Below w.heap.size w W from hW ▸ below1 w _)
      have HKW := Lib.hid (show KidsV ok W ks A 0 from KidsV.of_cells (fun p _ _ hc => (HB.out.cell (World.block_lt_of_cell? _ _ hc)).trans hc) ks A 0 HK.out)
      have HWw := Lib.hid hW
      clear hW
      go_enter Try.func37, Try.ntmps37
      go_wp2_with fail
      go_region
      go_wp2_with fail
      rw [← HWw.out]
      go_loopw [5] (fun i wr => ∃ j : Nat, j ≤ 3 ∧ i = .int .i64 j ∧ Below W.heap.size W wr ∧ ∀ (i : Nat) (t : Tree), i < j → ks[i]? = some t → allP t = true) (fun i _ => 3 - (intOf i).toNat)
      case atStart => exact ⟨0, by omega, rfl, (Below.refl _ _).drew, fun i t hi => absurd hi (by omega)⟩
      case round =>
        obtain ⟨j, hj, rfl, hb, hall⟩ := hrel
        obtain ⟨⟨x0, x1, x2, x3⟩, _⟩ := (HX.out.keep hb).four
        have HAll := Lib.hid hall
        clear hall
        by_cases hjn : j < 3
        · obtain ⟨t, ht⟩ : ∃ t, ks[j]? = some t := ⟨ks[j]'(by have := Hn.out; omega), List.getElem?_eq_getElem _⟩
          obtain ⟨g, o, xk, xa, xv, xA, xn, xc, rfl, hg, q0, q1, q2, q3, hEt⟩ := KidsV.get _ _ _ _ HKW.out ht
          have hgl := World.block_lt_of_cell? _ _ q0
          simp only at hgl
          replace q0 := (hb.cell (p := ⟨g, o + j * 4, none⟩) hgl).trans q0
          replace q1 := (hb.cell (p := ⟨g, o + j * 4 + 1, none⟩) hgl).trans q1
          replace q2 := (hb.cell (p := ⟨g, o + j * 4 + 2, none⟩) hgl).trans q2
          replace q3 := (hb.cell (p := ⟨g, o + j * 4 + 3, none⟩) hgl).trans q3
          have HEt := Lib.hid (hEt.keep hb)
          have HC := Lib.hid (HI.out t (List.mem_of_getElem? ht))
          have j0 : (0 : Int) ≤ (j : Int) := by omega
          have j1 : (j : Int) < 3 := by omega
          have HT := Lib.hid ht
          clear hEt ht
          go_wp2_with fail
          refine (HC.out.call ok _ _ HEt.out).mono ?_
          rintro e wc ⟨rfl, hbc⟩
          have hB := HB.out.step (hb.step hbc)
          cases hs : allP t
          · have HR := Lib.hid (allPL_no ks j t HT.out hs)
            clear hs
            go_wp2_with fail
            go_ret
            exact ⟨ret_bool (by rw [HF.out, HR.out]), hB⟩
          · have HS := Lib.hid hs
            clear hs
            go_wp2_with fail
            go_roundw
            case measure => simp [intOf]; omega
            case rel =>
              refine ⟨j + 1, by omega, by go_num, hb.step hbc, fun i t' hi h1 => ?_⟩
              by_cases hij : i < j
              · exact HAll.out i t' hij h1
              · obtain rfl : i = j := by omega
                rw [HT.out] at h1; cases h1
                exact HS.out
        · obtain rfl : j = 3 := by omega
          have hR := allPL_yes ks fun i t h1 => HAll.out i t (by
            rcases Nat.lt_or_ge i 3 with h | h
            · exact h
            · rw [List.getElem?_eq_none (by have := Hn.out; omega)] at h1; cases h1) h1
          have HR := Lib.hid hR
          clear hR
          go_wp2_with fail
          go_ret
          exact ⟨ret_bool (by rw [HF.out, HR.out]), HB.out.step hb⟩
  · have hp : plainB 9 v n = false := by unfold plainB; simp [kidsOf, topOf]; omega
    have HF := Lib.hid (show allP (.node 9 a v ks) = false by rw [hall, hp, Bool.false_and])
    have hni : ((n : Int) != 3) = true := by simp; omega
    clear hall hp
    cases hv : (v == 0)
    all_goals
      go_enter Try.func37, Try.ntmps37
      go_wp2_with fail
      go_region
      go_wp2_with fail
      go_ret
      exact ⟨ret_bool HF.out.symm, (below1 w _).drew⟩

set_option maxRecDepth 100000 in
set_option maxHeartbeats 2000000 in
theorem form_4 (a v : Int) (ks : List Tree) (IH : ∀ t ∈ ks, FormC t) : FormC (.node 4 a v ks) := by
  intro ok x w hE
  unfold ExprV at hE
  obtain ⟨A, c, rfl, hK⟩ := hE
  have hall : allP (.node 4 a v ks) = (plainB 4 v ks.length && allPL ks) := by simp only [allP]
  obtain ⟨n, hn⟩ : ∃ n, ks.length = n := ⟨_, rfl⟩
  rw [hn] at hall ⊢
  have Hn := Lib.hid hn; have HI := Lib.hid IH; have HK := Lib.hid hK
  clear hn IH hK
  by_cases hnN : n = 2
  · subst hnN
    cases hv : (v == 0)
    · have hp : plainB 4 v 2 = false := by
        simp only [beq_eq_false_iff_ne, ne_eq] at hv
        unfold plainB; simp [kidsOf, topOf]; omega
      have HF := Lib.hid (show allP (.node 4 a v ks) = false by rw [hall, hp, Bool.false_and])
      clear hall hp
      go_enter Try.func37, Try.ntmps37
      go_wp2_with fail
      go_region
      go_wp2_with fail
      go_ret
      exact ⟨ret_bool HF.out.symm, (below1 w _).drew⟩
    · have hp : plainB 4 v 2 = true := by
        simp only [beq_iff_eq] at hv
        unfold plainB; simp [kidsOf, topOf]; omega
      have HF := Lib.hid (show allP (.node 4 a v ks) = allPL ks by rw [hall, hp, Bool.true_and])
      clear hall hp
      obtain ⟨W, hW⟩ : ∃ W : World, W = w.alloc (.cells #[.int .i64 4, .int .i64 a, .int .i64 v, .slice A 2 c] 36) := ⟨_, rfl⟩
      have HX := Lib.hid (show Blk W w.heap.size 36 #[.int .i64 4, .int .i64 a, .int .i64 v, .slice A 2 c] from hW ▸ Blk.new w _ _)
      have HB := Lib.hid (show Below w.heap.size w W from hW ▸ below1 w _)
      have HKW := Lib.hid (show KidsV ok W ks A 0 from KidsV.of_cells (fun p _ _ hc => (HB.out.cell (World.block_lt_of_cell? _ _ hc)).trans hc) ks A 0 HK.out)
      have HWw := Lib.hid hW
      clear hW
      go_enter Try.func37, Try.ntmps37
      go_wp2_with fail
      go_region
      go_wp2_with fail
      rw [← HWw.out]
      go_loopw [5] (fun i wr => ∃ j : Nat, j ≤ 2 ∧ i = .int .i64 j ∧ Below W.heap.size W wr ∧ ∀ (i : Nat) (t : Tree), i < j → ks[i]? = some t → allP t = true) (fun i _ => 2 - (intOf i).toNat)
      case atStart => exact ⟨0, by omega, rfl, (Below.refl _ _).drew, fun i t hi => absurd hi (by omega)⟩
      case round =>
        obtain ⟨j, hj, rfl, hb, hall⟩ := hrel
        obtain ⟨⟨x0, x1, x2, x3⟩, _⟩ := (HX.out.keep hb).four
        have HAll := Lib.hid hall
        clear hall
        by_cases hjn : j < 2
        · obtain ⟨t, ht⟩ : ∃ t, ks[j]? = some t := ⟨ks[j]'(by have := Hn.out; omega), List.getElem?_eq_getElem _⟩
          obtain ⟨g, o, xk, xa, xv, xA, xn, xc, rfl, hg, q0, q1, q2, q3, hEt⟩ := KidsV.get _ _ _ _ HKW.out ht
          have hgl := World.block_lt_of_cell? _ _ q0
          simp only at hgl
          replace q0 := (hb.cell (p := ⟨g, o + j * 4, none⟩) hgl).trans q0
          replace q1 := (hb.cell (p := ⟨g, o + j * 4 + 1, none⟩) hgl).trans q1
          replace q2 := (hb.cell (p := ⟨g, o + j * 4 + 2, none⟩) hgl).trans q2
          replace q3 := (hb.cell (p := ⟨g, o + j * 4 + 3, none⟩) hgl).trans q3
          have HEt := Lib.hid (hEt.keep hb)
          have HC := Lib.hid (HI.out t (List.mem_of_getElem? ht))
          have j0 : (0 : Int) ≤ (j : Int) := by omega
          have j1 : (j : Int) < 2 := by omega
          have HT := Lib.hid ht
          clear hEt ht
          go_wp2_with fail
          refine (HC.out.call ok _ _ HEt.out).mono ?_
          rintro e wc ⟨rfl, hbc⟩
          have hB := HB.out.step (hb.step hbc)
          cases hs : allP t
          · have HR := Lib.hid (allPL_no ks j t HT.out hs)
            clear hs
            go_wp2_with fail
            go_ret
            exact ⟨ret_bool (by rw [HF.out, HR.out]), hB⟩
          · have HS := Lib.hid hs
            clear hs
            go_wp2_with fail
            go_roundw
            case measure => simp [intOf]; omega
            case rel =>
              refine ⟨j + 1, by omega, by go_num, hb.step hbc, fun i t' hi h1 => ?_⟩
              by_cases hij : i < j
              · exact HAll.out i t' hij h1
              · obtain rfl : i = j := by omega
                rw [HT.out] at h1; cases h1
                exact HS.out
        · obtain rfl : j = 2 := by omega
          have hR := allPL_yes ks fun i t h1 => HAll.out i t (by
            rcases Nat.lt_or_ge i 2 with h | h
            · exact h
            · rw [List.getElem?_eq_none (by have := Hn.out; omega)] at h1; cases h1) h1
          have HR := Lib.hid hR
          clear hR
          go_wp2_with fail
          go_ret
          exact ⟨ret_bool (by rw [HF.out, HR.out]), HB.out.step hb⟩
  · have hp : plainB 4 v n = false := by unfold plainB; simp [kidsOf, topOf]; omega
    have HF := Lib.hid (show allP (.node 4 a v ks) = false by rw [hall, hp, Bool.false_and])
    have hni : ((n : Int) != 2) = true := by simp; omega
    clear hall hp
    cases hv : (v == 0)
    all_goals
      go_enter Try.func37, Try.ntmps37
      go_wp2_with fail
      go_region
      go_wp2_with fail
      go_ret
      exact ⟨ret_bool HF.out.symm, (below1 w _).drew⟩

set_option maxRecDepth 100000 in
set_option maxHeartbeats 2000000 in
theorem form_5 (a v : Int) (ks : List Tree) (IH : ∀ t ∈ ks, FormC t) : FormC (.node 5 a v ks) := by
  intro ok x w hE
  unfold ExprV at hE
  obtain ⟨A, c, rfl, hK⟩ := hE
  have hall : allP (.node 5 a v ks) = (plainB 5 v ks.length && allPL ks) := by simp only [allP]
  obtain ⟨n, hn⟩ : ∃ n, ks.length = n := ⟨_, rfl⟩
  rw [hn] at hall ⊢
  have Hn := Lib.hid hn; have HI := Lib.hid IH; have HK := Lib.hid hK
  clear hn IH hK
  by_cases hnN : n = 2
  · subst hnN
    cases hv : (v == 0)
    · have hp : plainB 5 v 2 = false := by
        simp only [beq_eq_false_iff_ne, ne_eq] at hv
        unfold plainB; simp [kidsOf, topOf]; omega
      have HF := Lib.hid (show allP (.node 5 a v ks) = false by rw [hall, hp, Bool.false_and])
      clear hall hp
      go_enter Try.func37, Try.ntmps37
      go_wp2_with fail
      go_region
      go_wp2_with fail
      go_ret
      exact ⟨ret_bool HF.out.symm, (below1 w _).drew⟩
    · have hp : plainB 5 v 2 = true := by
        simp only [beq_iff_eq] at hv
        unfold plainB; simp [kidsOf, topOf]; omega
      have HF := Lib.hid (show allP (.node 5 a v ks) = allPL ks by rw [hall, hp, Bool.true_and])
      clear hall hp
      obtain ⟨W, hW⟩ : ∃ W : World, W = w.alloc (.cells #[.int .i64 5, .int .i64 a, .int .i64 v, .slice A 2 c] 36) := ⟨_, rfl⟩
      have HX := Lib.hid (show Blk W w.heap.size 36 #[.int .i64 5, .int .i64 a, .int .i64 v, .slice A 2 c] from hW ▸ Blk.new w _ _)
      have HB := Lib.hid (show Below w.heap.size w W from hW ▸ below1 w _)
      have HKW := Lib.hid (show KidsV ok W ks A 0 from KidsV.of_cells (fun p _ _ hc => (HB.out.cell (World.block_lt_of_cell? _ _ hc)).trans hc) ks A 0 HK.out)
      have HWw := Lib.hid hW
      clear hW
      go_enter Try.func37, Try.ntmps37
      go_wp2_with fail
      go_region
      go_wp2_with fail
      rw [← HWw.out]
      go_loopw [5] (fun i wr => ∃ j : Nat, j ≤ 2 ∧ i = .int .i64 j ∧ Below W.heap.size W wr ∧ ∀ (i : Nat) (t : Tree), i < j → ks[i]? = some t → allP t = true) (fun i _ => 2 - (intOf i).toNat)
      case atStart => exact ⟨0, by omega, rfl, (Below.refl _ _).drew, fun i t hi => absurd hi (by omega)⟩
      case round =>
        obtain ⟨j, hj, rfl, hb, hall⟩ := hrel
        obtain ⟨⟨x0, x1, x2, x3⟩, _⟩ := (HX.out.keep hb).four
        have HAll := Lib.hid hall
        clear hall
        by_cases hjn : j < 2
        · obtain ⟨t, ht⟩ : ∃ t, ks[j]? = some t := ⟨ks[j]'(by have := Hn.out; omega), List.getElem?_eq_getElem _⟩
          obtain ⟨g, o, xk, xa, xv, xA, xn, xc, rfl, hg, q0, q1, q2, q3, hEt⟩ := KidsV.get _ _ _ _ HKW.out ht
          have hgl := World.block_lt_of_cell? _ _ q0
          simp only at hgl
          replace q0 := (hb.cell (p := ⟨g, o + j * 4, none⟩) hgl).trans q0
          replace q1 := (hb.cell (p := ⟨g, o + j * 4 + 1, none⟩) hgl).trans q1
          replace q2 := (hb.cell (p := ⟨g, o + j * 4 + 2, none⟩) hgl).trans q2
          replace q3 := (hb.cell (p := ⟨g, o + j * 4 + 3, none⟩) hgl).trans q3
          have HEt := Lib.hid (hEt.keep hb)
          have HC := Lib.hid (HI.out t (List.mem_of_getElem? ht))
          have j0 : (0 : Int) ≤ (j : Int) := by omega
          have j1 : (j : Int) < 2 := by omega
          have HT := Lib.hid ht
          clear hEt ht
          go_wp2_with fail
          refine (HC.out.call ok _ _ HEt.out).mono ?_
          rintro e wc ⟨rfl, hbc⟩
          have hB := HB.out.step (hb.step hbc)
          cases hs : allP t
          · have HR := Lib.hid (allPL_no ks j t HT.out hs)
            clear hs
            go_wp2_with fail
            go_ret
            exact ⟨ret_bool (by rw [HF.out, HR.out]), hB⟩
          · have HS := Lib.hid hs
            clear hs
            go_wp2_with fail
            go_roundw
            case measure => simp [intOf]; omega
            case rel =>
              refine ⟨j + 1, by omega, by go_num, hb.step hbc, fun i t' hi h1 => ?_⟩
              by_cases hij : i < j
              · exact HAll.out i t' hij h1
              · obtain rfl : i = j := by omega
                rw [HT.out] at h1; cases h1
                exact HS.out
        · obtain rfl : j = 2 := by omega
          have hR := allPL_yes ks fun i t h1 => HAll.out i t (by
            rcases Nat.lt_or_ge i 2 with h | h
            · exact h
            · rw [List.getElem?_eq_none (by have := Hn.out; omega)] at h1; cases h1) h1
          have HR := Lib.hid hR
          clear hR
          go_wp2_with fail
          go_ret
          exact ⟨ret_bool (by rw [HF.out, HR.out]), HB.out.step hb⟩
  · have hp : plainB 5 v n = false := by unfold plainB; simp [kidsOf, topOf]; omega
    have HF := Lib.hid (show allP (.node 5 a v ks) = false by rw [hall, hp, Bool.false_and])
    have hni : ((n : Int) != 2) = true := by simp; omega
    clear hall hp
    cases hv : (v == 0)
    all_goals
      go_enter Try.func37, Try.ntmps37
      go_wp2_with fail
      go_region
      go_wp2_with fail
      go_ret
      exact ⟨ret_bool HF.out.symm, (below1 w _).drew⟩

set_option maxRecDepth 100000 in
set_option maxHeartbeats 2000000 in
theorem form_6 (a v : Int) (ks : List Tree) (IH : ∀ t ∈ ks, FormC t) : FormC (.node 6 a v ks) := by
  intro ok x w hE
  unfold ExprV at hE
  obtain ⟨A, c, rfl, hK⟩ := hE
  have hall : allP (.node 6 a v ks) = (plainB 6 v ks.length && allPL ks) := by simp only [allP]
  obtain ⟨n, hn⟩ : ∃ n, ks.length = n := ⟨_, rfl⟩
  rw [hn] at hall ⊢
  have Hn := Lib.hid hn; have HI := Lib.hid IH; have HK := Lib.hid hK
  clear hn IH hK
  by_cases hnN : n = 2
  · subst hnN
    cases hv : (v == 0)
    · have hp : plainB 6 v 2 = false := by
        simp only [beq_eq_false_iff_ne, ne_eq] at hv
        unfold plainB; simp [kidsOf, topOf]; omega
      have HF := Lib.hid (show allP (.node 6 a v ks) = false by rw [hall, hp, Bool.false_and])
      clear hall hp
      go_enter Try.func37, Try.ntmps37
      go_wp2_with fail
      go_region
      go_wp2_with fail
      go_ret
      exact ⟨ret_bool HF.out.symm, (below1 w _).drew⟩
    · have hp : plainB 6 v 2 = true := by
        simp only [beq_iff_eq] at hv
        unfold plainB; simp [kidsOf, topOf]; omega
      have HF := Lib.hid (show allP (.node 6 a v ks) = allPL ks by rw [hall, hp, Bool.true_and])
      clear hall hp
      obtain ⟨W, hW⟩ : ∃ W : World, W = w.alloc (.cells #[.int .i64 6, .int .i64 a, .int .i64 v, .slice A 2 c] 36) := ⟨_, rfl⟩
      have HX := Lib.hid (show Blk W w.heap.size 36 #[.int .i64 6, .int .i64 a, .int .i64 v, .slice A 2 c] from hW ▸ Blk.new w _ _)
      have HB := Lib.hid (show Below w.heap.size w W from hW ▸ below1 w _)
      have HKW := Lib.hid (show KidsV ok W ks A 0 from KidsV.of_cells (fun p _ _ hc => (HB.out.cell (World.block_lt_of_cell? _ _ hc)).trans hc) ks A 0 HK.out)
      have HWw := Lib.hid hW
      clear hW
      go_enter Try.func37, Try.ntmps37
      go_wp2_with fail
      go_region
      go_wp2_with fail
      rw [← HWw.out]
      go_loopw [5] (fun i wr => ∃ j : Nat, j ≤ 2 ∧ i = .int .i64 j ∧ Below W.heap.size W wr ∧ ∀ (i : Nat) (t : Tree), i < j → ks[i]? = some t → allP t = true) (fun i _ => 2 - (intOf i).toNat)
      case atStart => exact ⟨0, by omega, rfl, (Below.refl _ _).drew, fun i t hi => absurd hi (by omega)⟩
      case round =>
        obtain ⟨j, hj, rfl, hb, hall⟩ := hrel
        obtain ⟨⟨x0, x1, x2, x3⟩, _⟩ := (HX.out.keep hb).four
        have HAll := Lib.hid hall
        clear hall
        by_cases hjn : j < 2
        · obtain ⟨t, ht⟩ : ∃ t, ks[j]? = some t := ⟨ks[j]'(by have := Hn.out; omega), List.getElem?_eq_getElem _⟩
          obtain ⟨g, o, xk, xa, xv, xA, xn, xc, rfl, hg, q0, q1, q2, q3, hEt⟩ := KidsV.get _ _ _ _ HKW.out ht
          have hgl := World.block_lt_of_cell? _ _ q0
          simp only at hgl
          replace q0 := (hb.cell (p := ⟨g, o + j * 4, none⟩) hgl).trans q0
          replace q1 := (hb.cell (p := ⟨g, o + j * 4 + 1, none⟩) hgl).trans q1
          replace q2 := (hb.cell (p := ⟨g, o + j * 4 + 2, none⟩) hgl).trans q2
          replace q3 := (hb.cell (p := ⟨g, o + j * 4 + 3, none⟩) hgl).trans q3
          have HEt := Lib.hid (hEt.keep hb)
          have HC := Lib.hid (HI.out t (List.mem_of_getElem? ht))
          have j0 : (0 : Int) ≤ (j : Int) := by omega
          have j1 : (j : Int) < 2 := by omega
          have HT := Lib.hid ht
          clear hEt ht
          go_wp2_with fail
          refine (HC.out.call ok _ _ HEt.out).mono ?_
          rintro e wc ⟨rfl, hbc⟩
          have hB := HB.out.step (hb.step hbc)
          cases hs : allP t
          · have HR := Lib.hid (allPL_no ks j t HT.out hs)
            clear hs
            go_wp2_with fail
            go_ret
            exact ⟨ret_bool (by rw [HF.out, HR.out]), hB⟩
          · have HS := Lib.hid hs
            clear hs
            go_wp2_with fail
            go_roundw
            case measure => simp [intOf]; omega
            case rel =>
              refine ⟨j + 1, by omega, by go_num, hb.step hbc, fun i t' hi h1 => ?_⟩
              by_cases hij : i < j
              · exact HAll.out i t' hij h1
              · obtain rfl : i = j := by omega
                rw [HT.out] at h1; cases h1
                exact HS.out
        · obtain rfl : j = 2 := by omega
          have hR := allPL_yes ks fun i t h1 => HAll.out i t (by
            rcases Nat.lt_or_ge i 2 with h | h
            · exact h
            · rw [List.getElem?_eq_none (by have := Hn.out; omega)] at h1; cases h1) h1
          have HR := Lib.hid hR
          clear hR
          go_wp2_with fail
          go_ret
          exact ⟨ret_bool (by rw [HF.out, HR.out]), HB.out.step hb⟩
  · have hp : plainB 6 v n = false := by unfold plainB; simp [kidsOf, topOf]; omega
    have HF := Lib.hid (show allP (.node 6 a v ks) = false by rw [hall, hp, Bool.false_and])
    have hni : ((n : Int) != 2) = true := by simp; omega
    clear hall hp
    cases hv : (v == 0)
    all_goals
      go_enter Try.func37, Try.ntmps37
      go_wp2_with fail
      go_region
      go_wp2_with fail
      go_ret
      exact ⟨ret_bool HF.out.symm, (below1 w _).drew⟩

set_option maxRecDepth 100000 in
set_option maxHeartbeats 2000000 in
theorem form_7 (a v : Int) (ks : List Tree) (IH : ∀ t ∈ ks, FormC t) : FormC (.node 7 a v ks) := by
  intro ok x w hE
  unfold ExprV at hE
  obtain ⟨A, c, rfl, hK⟩ := hE
  have hall : allP (.node 7 a v ks) = (plainB 7 v ks.length && allPL ks) := by simp only [allP]
  obtain ⟨n, hn⟩ : ∃ n, ks.length = n := ⟨_, rfl⟩
  rw [hn] at hall ⊢
  have Hn := Lib.hid hn; have HI := Lib.hid IH; have HK := Lib.hid hK
  clear hn IH hK
  by_cases hnN : n = 2
  · subst hnN
    cases hv : (v == 0)
    · have hp : plainB 7 v 2 = false := by
        simp only [beq_eq_false_iff_ne, ne_eq] at hv
        unfold plainB; simp [kidsOf, topOf]; omega
      have HF := Lib.hid (show allP (.node 7 a v ks) = false by rw [hall, hp, Bool.false_and])
      clear hall hp
      go_enter Try.func37, Try.ntmps37
      go_wp2_with fail
      go_region
      go_wp2_with fail
      go_ret
      exact ⟨ret_bool HF.out.symm, (below1 w _).drew⟩
    · have hp : plainB 7 v 2 = true := by
        simp only [beq_iff_eq] at hv
        unfold plainB; simp [kidsOf, topOf]; omega
      have HF := Lib.hid (show allP (.node 7 a v ks) = allPL ks by rw [hall, hp, Bool.true_and])
      clear hall hp
      obtain ⟨W, hW⟩ : ∃ W : World, W = w.alloc (.cells #[.int .i64 7, .int .i64 a, .int .i64 v, .slice A 2 c] 36) := ⟨_, rfl⟩
      have HX := Lib.hid (show Blk W w.heap.size 36 #[.int .i64 7, .int .i64 a, .int .i64 v, .slice A 2 c] from hW ▸ Blk.new w _ _)
      have HB := Lib.hid (show Below w.heap.size w W from hW ▸ below1 w _)
      have HKW := Lib.hid (show KidsV ok W ks A 0 from KidsV.of_cells (fun p _ _ hc => (HB.out.cell (World.block_lt_of_cell? _ _ hc)).trans hc) ks A 0 HK.out)
      have HWw := Lib.hid hW
      clear hW
      go_enter Try.func37, Try.ntmps37
      go_wp2_with fail
      go_region
      go_wp2_with fail
      rw [← HWw.out]
      go_loopw [5] (fun i wr => ∃ j : Nat, j ≤ 2 ∧ i = .int .i64 j ∧ Below W.heap.size W wr ∧ ∀ (i : Nat) (t : Tree), i < j → ks[i]? = some t → allP t = true) (fun i _ => 2 - (intOf i).toNat)
      case atStart => exact ⟨0, by omega, rfl, (Below.refl _ _).drew, fun i t hi => absurd hi (by omega)⟩
      case round =>
        obtain ⟨j, hj, rfl, hb, hall⟩ := hrel
        obtain ⟨⟨x0, x1, x2, x3⟩, _⟩ := (HX.out.keep hb).four
        have HAll := Lib.hid hall
        clear hall
        by_cases hjn : j < 2
        · obtain ⟨t, ht⟩ : ∃ t, ks[j]? = some t := ⟨ks[j]'(by have := Hn.out; omega), List.getElem?_eq_getElem _⟩
          obtain ⟨g, o, xk, xa, xv, xA, xn, xc, rfl, hg, q0, q1, q2, q3, hEt⟩ := KidsV.get _ _ _ _ HKW.out ht
          have hgl := World.block_lt_of_cell? _ _ q0
          simp only at hgl
          replace q0 := (hb.cell (p := ⟨g, o + j * 4, none⟩) hgl).trans q0
          replace q1 := (hb.cell (p := ⟨g, o + j * 4 + 1, none⟩) hgl).trans q1
          replace q2 := (hb.cell (p := ⟨g, o + j * 4 + 2, none⟩) hgl).trans q2
          replace q3 := (hb.cell (p := ⟨g, o + j * 4 + 3, none⟩) hgl).trans q3
          have HEt := Lib.hid (hEt.keep hb)
          have HC := Lib.hid (HI.out t (List.mem_of_getElem? ht))
          have j0 : (0 : Int) ≤ (j : Int) := by omega
          have j1 : (j : Int) < 2 := by omega
          have HT := Lib.hid ht
          clear hEt ht
          go_wp2_with fail
          refine (HC.out.call ok _ _ HEt.out).mono ?_
          rintro e wc ⟨rfl, hbc⟩
          have hB := HB.out.step (hb.step hbc)
          cases hs : allP t
          · have HR := Lib.hid (allPL_no ks j t HT.out hs)
            clear hs
            go_wp2_with fail
            go_ret
            exact ⟨ret_bool (by rw [HF.out, HR.out]), hB⟩
          · have HS := Lib.hid hs
            clear hs
            go_wp2_with fail
            go_roundw
            case measure => simp [intOf]; omega
            case rel =>
              refine ⟨j + 1, by omega, by go_num, hb.step hbc, fun i t' hi h1 => ?_⟩
              by_cases hij : i < j
              · exact HAll.out i t' hij h1
              · obtain rfl : i = j := by omega
                rw [HT.out] at h1; cases h1
                exact HS.out
        · obtain rfl : j = 2 := by omega
          have hR := allPL_yes ks fun i t h1 => HAll.out i t (by
            rcases Nat.lt_or_ge i 2 with h | h
            · exact h
            · rw [List.getElem?_eq_none (by have := Hn.out; omega)] at h1; cases h1) h1
          have HR := Lib.hid hR
          clear hR
          go_wp2_with fail
          go_ret
          exact ⟨ret_bool (by rw [HF.out, HR.out]), HB.out.step hb⟩
  · have hp : plainB 7 v n = false := by unfold plainB; simp [kidsOf, topOf]; omega
    have HF := Lib.hid (show allP (.node 7 a v ks) = false by rw [hall, hp, Bool.false_and])
    have hni : ((n : Int) != 2) = true := by simp; omega
    clear hall hp
    cases hv : (v == 0)
    all_goals
      go_enter Try.func37, Try.ntmps37
      go_wp2_with fail
      go_region
      go_wp2_with fail
      go_ret
      exact ⟨ret_bool HF.out.symm, (below1 w _).drew⟩

set_option maxRecDepth 100000 in
set_option maxHeartbeats 2000000 in
theorem form_8 (a v : Int) (ks : List Tree) (IH : ∀ t ∈ ks, FormC t) : FormC (.node 8 a v ks) := by
  intro ok x w hE
  unfold ExprV at hE
  obtain ⟨A, c, rfl, hK⟩ := hE
  have hall : allP (.node 8 a v ks) = (plainB 8 v ks.length && allPL ks) := by simp only [allP]
  obtain ⟨n, hn⟩ : ∃ n, ks.length = n := ⟨_, rfl⟩
  rw [hn] at hall ⊢
  have Hn := Lib.hid hn; have HI := Lib.hid IH; have HK := Lib.hid hK
  clear hn IH hK
  by_cases hnN : n = 2
  · subst hnN
    cases hv : (v == 0)
    · have hp : plainB 8 v 2 = false := by
        simp only [beq_eq_false_iff_ne, ne_eq] at hv
        unfold plainB; simp [kidsOf, topOf]; omega
      have HF := Lib.hid (show allP (.node 8 a v ks) = false by rw [hall, hp, Bool.false_and])
      clear hall hp
      go_enter Try.func37, Try.ntmps37
      go_wp2_with fail
      go_region
      go_wp2_with fail
      go_ret
      exact ⟨ret_bool HF.out.symm, (below1 w _).drew⟩
    · have hp : plainB 8 v 2 = true := by
        simp only [beq_iff_eq] at hv
        unfold plainB; simp [kidsOf, topOf]; omega
      have HF := Lib.hid (show allP (.node 8 a v ks) = allPL ks by rw [hall, hp, Bool.true_and])
      clear hall hp
      obtain ⟨W, hW⟩ : ∃ W : World, W = w.alloc (.cells #[.int .i64 8, .int .i64 a, .int .i64 v, .slice A 2 c] 36) := ⟨_, rfl⟩
      have HX := Lib.hid (show Blk W w.heap.size 36 #[.int .i64 8, .int .i64 a, .int .i64 v, .slice A 2 c] from hW ▸ Blk.new w _ _)
      have HB := Lib.hid (show Below w.heap.size w W from hW ▸ below1 w _)
      have HKW := Lib.hid (show KidsV ok W ks A 0 from KidsV.of_cells (fun p _ _ hc => (HB.out.cell (World.block_lt_of_cell? _ _ hc)).trans hc) ks A 0 HK.out)
      have HWw := Lib.hid hW
      clear hW
      go_enter Try.func37, Try.ntmps37
      go_wp2_with fail
      go_region
      go_wp2_with fail
      rw [← HWw.out]
      go_loopw [5] (fun i wr => ∃ j : Nat, j ≤ 2 ∧ i = .int .i64 j ∧ Below W.heap.size W wr ∧ ∀ (i : Nat) (t : Tree), i < j → ks[i]? = some t → allP t = true) (fun i _ => 2 - (intOf i).toNat)
      case atStart => exact ⟨0, by omega, rfl, (Below.refl _ _).drew, fun i t hi => absurd hi (by omega)⟩
      case round =>
        obtain ⟨j, hj, rfl, hb, hall⟩ := hrel
        obtain ⟨⟨x0, x1, x2, x3⟩, _⟩ := (HX.out.keep hb).four
        have HAll := Lib.hid hall
        clear hall
        by_cases hjn : j < 2
        · obtain ⟨t, ht⟩ : ∃ t, ks[j]? = some t := ⟨ks[j]'(by have := Hn.out; omega), List.getElem?_eq_getElem _⟩
          obtain ⟨g, o, xk, xa, xv, xA, xn, xc, rfl, hg, q0, q1, q2, q3, hEt⟩ := KidsV.get _ _ _ _ HKW.out ht
          have hgl := World.block_lt_of_cell? _ _ q0
          simp only at hgl
          replace q0 := (hb.cell (p := ⟨g, o + j * 4, none⟩) hgl).trans q0
          replace q1 := (hb.cell (p := ⟨g, o + j * 4 + 1, none⟩) hgl).trans q1
          replace q2 := (hb.cell (p := ⟨g, o + j * 4 + 2, none⟩) hgl).trans q2
          replace q3 := (hb.cell (p := ⟨g, o + j * 4 + 3, none⟩) hgl).trans q3
          have HEt := Lib.hid (hEt.keep hb)
          have HC := Lib.hid (HI.out t (List.mem_of_getElem? ht))
          have j0 : (0 : Int) ≤ (j : Int) := by omega
          have j1 : (j : Int) < 2 := by omega
          have HT := Lib.hid ht
          clear hEt ht
          go_wp2_with fail
          refine (HC.out.call ok _ _ HEt.out).mono ?_
          rintro e wc ⟨rfl, hbc⟩
          have hB := HB.out.step (hb.step hbc)
          cases hs : allP t
          · have HR := Lib.hid (allPL_no ks j t HT.out hs)
            clear hs
            go_wp2_with fail
            go_ret
            exact ⟨ret_bool (by rw [HF.out, HR.out]), hB⟩
          · have HS := Lib.hid hs
            clear hs
            go_wp2_with fail
            go_roundw
            case measure => simp [intOf]; omega
            case rel =>
              refine ⟨j + 1, by omega, by go_num, hb.step hbc, fun i t' hi h1 => ?_⟩
              by_cases hij : i < j
              · exact HAll.out i t' hij h1
              · obtain rfl : i = j := by omega
                rw [HT.out] at h1; cases h1
                exact HS.out
        · obtain rfl : j = 2 := by omega
          have hR := allPL_yes ks fun i t h1 => HAll.out i t (by
            rcases Nat.lt_or_ge i 2 with h | h
            · exact h
            · rw [List.getElem?_eq_none (by have := Hn.out; omega)] at h1; cases h1) h1
          have HR := Lib.hid hR
          clear hR
          go_wp2_with fail
          go_ret
          exact ⟨ret_bool (by rw [HF.out, HR.out]), HB.out.step hb⟩
  · have hp : plainB 8 v n = false := by unfold plainB; simp [kidsOf, topOf]; omega
    have HF := Lib.hid (show allP (.node 8 a v ks) = false by rw [hall, hp, Bool.false_and])
    have hni : ((n : Int) != 2) = true := by simp; omega
    clear hall hp
    cases hv : (v == 0)
    all_goals
      go_enter Try.func37, Try.ntmps37
      go_wp2_with fail
      go_region
      go_wp2_with fail
      go_ret
      exact ⟨ret_bool HF.out.symm, (below1 w _).drew⟩

end Go.Proofs.Ytmjpecjciibngaa
namespace Go.Proofs.Ytmjpecjciibngaa
open Go.RowKit
set_option linter.unusedVariables false

set_option maxRecDepth 100000 in
set_option maxHeartbeats 2000000 in
theorem form_other (k a v : Int) (ks : List Tree) (hk : ¬ (1 ≤ k ∧ k ≤ 11)) : FormC (.node k a v ks) := by
  intro ok x w hE
  unfold ExprV at hE
  obtain ⟨A, c, rfl, hK⟩ := hE
  have hp : plainB k v ks.length = false := by unfold plainB; simp; omega
  have HF := Lib.hid (show allP (.node k a v ks) = false by simp only [allP, hp, Bool.false_and])
  have f1 : (k == 1) = false := by simp; omega
  have f2 : (k == 2) = false := by simp; omega
  have f3 : (k == 3) = false := by simp; omega
  have f4 : (k == 4) = false := by simp; omega
  have f5 : (k == 5) = false := by simp; omega
  have f6 : (k == 6) = false := by simp; omega
  have f7 : (k == 7) = false := by simp; omega
  have f8 : (k == 8) = false := by simp; omega
  have f9 : (k == 9) = false := by simp; omega
  have f10 : (k == 10) = false := by simp; omega
  have f11 : (k == 11) = false := by simp; omega
  generalize ks.length = n at *
  clear hK hp hk
  go_enter Try.func37, Try.ntmps37
  go_wp2_with fail
  go_region
  go_wp2_with fail
  go_ret
  exact ⟨ret_bool HF.out.symm, (below1 w _).drew⟩
theorem form_node (k a v : Int) (ks : List Tree) (IH : ∀ t ∈ ks, FormC t) : FormC (.node k a v ks) := by
  by_cases hk : 1 ≤ k ∧ k ≤ 11
  · have hk11 : k = 1 ∨ k = 2 ∨ k = 3 ∨ k = 4 ∨ k = 5 ∨ k = 6 ∨ k = 7 ∨ k = 8 ∨ k = 9 ∨ k = 10 ∨ k = 11 := by omega
    rcases hk11 with rfl | rfl | rfl | rfl | rfl | rfl | rfl | rfl | rfl | rfl | rfl
    · exact form_1 a v ks IH
    · exact form_2 a v ks IH
    · exact form_3 a v ks IH
    · exact form_4 a v ks IH
    · exact form_5 a v ks IH
    · exact form_6 a v ks IH
    · exact form_7 a v ks IH
    · exact form_8 a v ks IH
    · exact form_9 a v ks IH
    · exact form_10 a v ks IH
    · exact form_11 a v ks IH
  · exact form_other k a v ks hk
mutual
theorem form_tree : ∀ t : Tree, FormC t
  | .node k a v ks => form_node k a v ks (form_trees ks)
theorem form_trees : ∀ l : List Tree, ∀ t ∈ l, FormC t
  | [], t, ht => absurd ht (by simp)
  | u :: us, t, ht => by
    rcases List.mem_cons.1 ht with e | ht
    · rw [e]; exact form_tree u
    · exact form_trees us t ht
end
def isR (t : Tree) : Bool := decide (sizeT t ≤ 4000) && allP t
theorem isR_eq (t : Tree) (h : sizeT t ≤ 4000) : isR t = isT t := by
  unfold isR
  rw [decide_eq_true h, Bool.true_and]
  cases hp : allP t
  · cases hT : isT t
    · rfl
    · rw [allP_of_isT hT] at hp; cases hp
  · exact (isT_of hp h).symm
set_option maxRecDepth 100000 in
set_option maxHeartbeats 2000000 in
theorem ref_is (ok : Nat → Prop) (t : Tree) (x : Value) (w : World) (hE : ExprV ok w t x) : Calls Try.prog 19 #[x] w fun e w' => e = .returned (.bool (isR t)) ∧ Below w.heap.size w w' := by
  obtain ⟨xk, xa, xv, xA, xn, xc, rfl⟩ := hE.four
  have HE := Lib.hid (hE.alloc (.cells #[.int .i64 xk, .int .i64 xa, .int .i64 xv, .slice xA xn xc] 36))
  clear hE
  go_enter Try.func19, Try.ntmps19
  go_wp2_with fail
  refine (count_any 4000 (by omega) ok t _ _ HE.out).mono ?_
  rintro e w1 ⟨rfl, hb1⟩
  have hX := (Blk.new w 36 #[.int .i64 xk, .int .i64 xa, .int .i64 xv, .slice xA xn xc]).keep hb1
  obtain ⟨⟨x0, x1, x2, x3⟩, _⟩ := hX.four
  have hB1 := (below1 w _).step hb1
  have HE1 := Lib.hid (HE.out.keep hb1)
  by_cases hs : sizeT t ≤ 4000
  · have hc : cntT 4000 t ≤ 4000 := by unfold cntT; omega
    have HR := Lib.hid (show isR t = allP t by unfold isR; rw [decide_eq_true hs, Bool.true_and])
    have hci : ((cntT 4000 t : Nat) : Int) ≤ 4000 := by omega
    generalize cntT 4000 t = z at *
    clear hb1 hX hs hc HE
    go_wp2_with fail
    refine ((form_tree t).call ok _ _ HE1.out).mono ?_
    rintro e w2 ⟨rfl, hb2⟩
    go_wp2_with fail
    go_ret
    exact ⟨ret_bool HR.out.symm, hB1.step hb2⟩
  · have hc : ¬ cntT 4000 t ≤ 4000 := by unfold cntT; omega
    have HR := Lib.hid (show isR t = false by unfold isR; rw [decide_eq_false hs, Bool.false_and])
    have hci : ¬ ((cntT 4000 t : Nat) : Int) ≤ 4000 := by omega
    generalize cntT 4000 t = z at *
    clear hb1 hX hs hc HE
    go_wp2_with fail
    go_ret
    exact ⟨ret_bool HR.out.symm, hB1⟩

/-- What the reference's Same must do for a formula. -/
def SameR (t : Tree) : Prop := ∀ (ok ok' : Nat → Prop) (u : Tree) (x y : Value) (w : World), ExprV ok w t x → ExprV ok' w u y → Calls Try.prog 20 #[x, y] w fun e w' => e = .returned (.bool (sameT t u)) ∧ Below w.heap.size w w'
theorem SameR.call {t : Tree} (h : SameR t) (ok ok' : Nat → Prop) (u : Tree) (x y : Value) (w : World) (h1 : ExprV ok w t x) (h2 : ExprV ok' w u y) : Calls Try.prog 20 #[x, y] w fun e w' => e = .returned (.bool (sameT t u)) ∧ Below w.heap.size w w' := h ok ok' u x y w h1 h2
set_option maxRecDepth 100000 in
set_option maxHeartbeats 2000000 in
theorem refsame_node (k a v : Int) (ks : List Tree) (hl : ks.length ≤ 9223372036854775807) (IH : ∀ t ∈ ks, SameR t) : SameR (.node k a v ks) := by
  intro ok ok' u x y w h1 h2
  cases u with
  | node k' a' v' ks' =>
    unfold ExprV at h1 h2
    obtain ⟨A, c, rfl, hK1⟩ := h1
    obtain ⟨A', c', rfl, hK2⟩ := h2
    have hsame : sameT (.node k a v ks) (.node k' a' v' ks') = ((k == k') && ((v == v') && ((ks.length == ks'.length) && sameL ks ks'))) := by simp only [sameT]
    obtain ⟨n, hn⟩ : ∃ n, ks.length = n := ⟨_, rfl⟩
    obtain ⟨n', hn'⟩ : ∃ n', ks'.length = n' := ⟨_, rfl⟩
    rw [hn, hn'] at hsame ⊢
    rw [hn] at hl
    obtain ⟨W, hW⟩ : ∃ W : World, W = (w.alloc (.cells #[.int .i64 k, .int .i64 a, .int .i64 v, .slice A n c] 36)).alloc (.cells #[.int .i64 k', .int .i64 a', .int .i64 v', .slice A' n' c'] 36) := ⟨_, rfl⟩
    have HB := Lib.hid (show Below w.heap.size w W from hW ▸ below2 w _ _)
    have HX := Lib.hid (show Blk W w.heap.size 36 #[.int .i64 k, .int .i64 a, .int .i64 v, .slice A n c] from hW ▸ (Blk.new w _ _).alloc _)
    have HY := Lib.hid (show Blk W (w.heap.size + 1) 36 #[.int .i64 k', .int .i64 a', .int .i64 v', .slice A' n' c'] from hW ▸ Blk.new1 w _ _ _)
    have HK1 := Lib.hid (show KidsV ok W ks A 0 from KidsV.of_cells (fun p _ _ hc => (HB.out.cell (World.block_lt_of_cell? _ _ hc)).trans hc) ks A 0 hK1)
    have HK2 := Lib.hid (show KidsV ok' W ks' A' 0 from KidsV.of_cells (fun p _ _ hc => (HB.out.cell (World.block_lt_of_cell? _ _ hc)).trans hc) ks' A' 0 hK2)
    have HI := Lib.hid IH; have HS := Lib.hid hsame; have Hn := Lib.hid hn; have Hn' := Lib.hid hn'; have HWw := Lib.hid hW
    have HWz := Lib.hid (show w.heap.size + 2 ≤ W.heap.size by rw [hW]; simp)
    clear hK1 hK2 IH hsame hn hn' hW
    cases hk : (k == k')
    · have hk2 : (k != k') = true := by simp only [bne, hk]; rfl
      go_enter Try.func20, Try.ntmps20
      go_wp2_with fail
      go_ret
      exact ⟨ret_bool (by rw [HS.out, hk]; rfl), below2 w _ _⟩
    · have hk2 : (k != k') = false := by simp only [bne, hk]; rfl
      cases hv : (v == v')
      · have hv2 : (v != v') = true := by simp only [bne, hv]; rfl
        go_enter Try.func20, Try.ntmps20
        go_wp2_with fail
        go_ret
        exact ⟨ret_bool (by rw [HS.out, hk, hv]; rfl), below2 w _ _⟩
      · have hv2 : (v != v') = false := by simp only [bne, hv]; rfl
        by_cases hnn : n = n'
        · subst hnn
          have hS2 : sameT (.node k a v ks) (.node k' a' v' ks') = sameL ks ks' := by rw [HS.out, hk, hv]; simp
          have HS2 := Lib.hid hS2
          clear hS2 HS
          go_enter Try.func20, Try.ntmps20
          go_wp2_with fail
          rw [← HWw.out]
          go_loopw [5] (fun i wr => ∃ j : Nat, j ≤ n ∧ i = .int .i64 j ∧ Below W.heap.size W wr ∧ ∀ (i : Nat) (t u : Tree), i < j → ks[i]? = some t → ks'[i]? = some u → sameT t u = true) (fun i _ => n - (intOf i).toNat)
          case atStart => exact ⟨0, by omega, rfl, Below.refl _ _, fun i t u hi => absurd hi (by omega)⟩
          case round =>
            obtain ⟨j, hj, rfl, hb, hall⟩ := hrel
            have HAll := Lib.hid hall; clear hall
            have hbX := HX.out.keep hb
            have hbY := HY.out.keep hb
            obtain ⟨⟨x0, x1, x2, x3⟩, _⟩ := hbX.four
            obtain ⟨⟨y0, y1, y2, y3⟩, _⟩ := hbY.four
            have lX := hbX.lt; have lY := hbY.lt
            clear hbX hbY
            by_cases hjn : j < n
            · obtain ⟨t, ht⟩ : ∃ t, ks[j]? = some t := ⟨ks[j]'(by have := Hn.out; omega), List.getElem?_eq_getElem _⟩
              obtain ⟨u, hu⟩ : ∃ u, ks'[j]? = some u := ⟨ks'[j]'(by have := Hn'.out; omega), List.getElem?_eq_getElem _⟩
              obtain ⟨g, o, xk, xa, xv, xA, xn, xc, rfl, hg, q0, q1, q2, q3, hE⟩ := KidsV.get _ _ _ _ HK1.out ht
              obtain ⟨g2, o2, yk, ya, yv, yA, yn, yc, rfl, hg2, r0, r1, r2, r3, hF⟩ := KidsV.get _ _ _ _ HK2.out hu
              have hgl := World.block_lt_of_cell? _ _ q0
              have hgl2 := World.block_lt_of_cell? _ _ r0
              simp only at hgl hgl2
              have hsz := hb.size
              replace q0 := (hb.cell (p := ⟨g, o + j * 4, none⟩) hgl).trans q0
              replace q1 := (hb.cell (p := ⟨g, o + j * 4 + 1, none⟩) hgl).trans q1
              replace q2 := (hb.cell (p := ⟨g, o + j * 4 + 2, none⟩) hgl).trans q2
              replace q3 := (hb.cell (p := ⟨g, o + j * 4 + 3, none⟩) hgl).trans q3
              replace r0 := (hb.cell (p := ⟨g2, o2 + j * 4, none⟩) hgl2).trans r0
              replace r1 := (hb.cell (p := ⟨g2, o2 + j * 4 + 1, none⟩) hgl2).trans r1
              replace r2 := (hb.cell (p := ⟨g2, o2 + j * 4 + 2, none⟩) hgl2).trans r2
              replace r3 := (hb.cell (p := ⟨g2, o2 + j * 4 + 3, none⟩) hgl2).trans r3
              have gl1 : g < wr.heap.size := by omega
              have gl2 : g2 < wr.heap.size := by omega
              have HE := Lib.hid (hE.keep hb); have HF := Lib.hid (hF.keep hb); have HT := Lib.hid ht; have HU := Lib.hid hu
              have HC := Lib.hid (HI.out t (List.mem_of_getElem? ht))
              have j0 : (0 : Int) ≤ (j : Int) := by omega
              have j1 : (j : Int) < (n : Int) := by omega
              clear hE hF ht hu
              go_wp2_with fail
              go_region_held3 (fun w' => wr.heap.size ≤ w'.heap.size ∧ ∀ p : Addr, p.block < wr.heap.size → w'.cell? p = wr.cell? p)
                (first
                  | exact ⟨Nat.le_refl _, fun p _ => rfl⟩
                  | exact ⟨hbc.of_drew.size, fun p hp => hbc.of_drew.cell hp⟩)
                (first
                  | (go_at_call 20; (with_reducible refine (HC.out.call ok ok' u _ _ _ HE.out.drew HF.out.drew).mono ?_); rintro e wc ⟨rfl, hbc⟩))
              have hbd := hbc.of_drew
              have hB := HB.out.step (hb.step hbd)
              cases hs : sameT t u
              · have HR := Lib.hid (sameL_no ks ks' j t u HT.out HU.out hs)
                clear hs
                go_wp2_with fail
                go_ret
                exact ⟨ret_bool (by rw [HS2.out, HR.out]), hB⟩
              · have HSs := Lib.hid hs
                clear hs
                go_wp2_with fail
                go_roundw
                case measure => simp [intOf]; omega
                case rel =>
                  refine ⟨j + 1, by omega, by go_num, hb.step hbd, fun i t' u' hi h1 h2 => ?_⟩
                  by_cases hij : i < j
                  · exact HAll.out i t' u' hij h1 h2
                  · obtain rfl : i = j := by omega
                    rw [HT.out] at h1; rw [HU.out] at h2
                    cases h1; cases h2
                    exact HSs.out
            · obtain rfl : j = n := by omega
              have hR := sameL_yes ks ks' fun i t u h1 h2 => HAll.out i t u (by
                rcases Nat.lt_or_ge i j with h | h
                · exact h
                · rw [List.getElem?_eq_none (by have := Hn.out; omega)] at h1; cases h1) h1 h2
              have HR := Lib.hid hR
              have j1 : ¬ (j : Int) < (j : Int) := by omega
              clear hR
              go_wp2_with fail
              go_ret
              exact ⟨ret_bool (by rw [HS2.out, HR.out]), HB.out.step hb⟩
        · have hbi : ((n : Int) != (n' : Int)) = true := by simp; omega
          have hb2 : (n == n') = false := by simpa using hnn
          go_enter Try.func20, Try.ntmps20
          go_wp2_with fail
          go_ret
          exact ⟨ret_bool (by rw [HS.out, hk, hv, hb2]; rfl), below2 w _ _⟩
mutual
theorem refsame_tree : ∀ t : Tree, wideT t = true → SameR t
  | .node k a v ks, h => by
    unfold wideT at h
    rw [Bool.and_eq_true] at h
    exact refsame_node k a v ks (by simpa using h.1) (refsame_trees ks h.2)
theorem refsame_trees : ∀ l : List Tree, wideL l = true → ∀ t ∈ l, SameR t
  | [], _, t, ht => absurd ht (by simp)
  | u :: us, h, t, ht => by
    unfold wideL at h
    rw [Bool.and_eq_true] at h
    rcases List.mem_cons.1 ht with e | ht
    · rw [e]; exact refsame_tree u h.1
    · exact refsame_trees us h.2 t ht
end
end Go.Proofs.Ytmjpecjciibngaa
