/- ExprBinds: name, first, join. -/
import Derived.Test.YtmjpecjciibngaaNests1
namespace Go.Proofs.Ytmjpecjciibngaa
open Go.RowKit
set_option linter.unusedVariables false

set_option maxRecDepth 100000 in
set_option maxHeartbeats 1000000 in
theorem name_any (b : Nat) (hb : b < 256) (w : World) : Calls Try.prog 9 #[.int .u8 (b : Int)] w fun e w' => e = .returned (.string (str [118, dg (b % 8)])) ∧ Below w.heap.size w w' := by
  obtain ⟨v, hv8, hv⟩ : ∃ v : Nat, v < 8 ∧ b % 8 = v := ⟨b % 8, by omega, rfl⟩
  have hbi : (b : Int) % 8 = (v : Int) := by omega
  rw [hv]
  have hv0 : (0 : Int) ≤ (v : Int) := by omega
  have hk : (convert 22 9 (.slice (some ⟨w.heap.size, 0, none⟩) 1 1)).run Try.prog (w.alloc (.cells #[.int .u8 (48 + (v : Int))] 5)) = .ok (.string (str [dg v])) (w.alloc (.cells #[.int .u8 (48 + (v : Int))] 5)) :=
    run_convert_bytes_back _ 22 9 5 ⟨w.heap.size, 0, none⟩ 1 [dg v] Try.underlying22 Try.underlying5 Try.underlying9 fun j hj => by
      have : j = 0 := by simpa using hj
      subst this
      have := (Blk.new w 5 #[.int .u8 (48 + (v : Int))]).cell 0
      rw [show (⟨w.heap.size, 0, none⟩ : Addr).add 0 = ⟨w.heap.size, 0, none⟩ from rfl, this]
      have h2 : (48 + v) % 256 = 48 + v := by omega
      simp [dg, UInt8.toNat_ofNat', h2]
  have hs : (str [dg v]).size ≤ 10 := by rw [size_str]; simp
  have hcat : (⟨#[118]⟩ : ByteArray) ++ str [dg v] = str [118, dg v] := by
    rw [show (⟨#[118]⟩ : ByteArray) = str [118] from rfl, str_app]; rfl
  clear hv
  go_enter Try.func9, Try.ntmps9
  go_wp2_with fail
  go_ret
  exact ⟨rfl, below1 _ _⟩

/-- The place of the operator o among the first k: the first one, or for 3 the last one; -1 if there is none. -/
def firstTo (ops : List Nat) (o : Nat) : Nat → Int
  | 0 => -1
  | k + 1 => if ops[k]? = some o ∧ (firstTo ops o k < 0 ∨ o = 3) then (k : Int) else firstTo ops o k
def firstL (ops : List Nat) (o : Nat) : Int := firstTo ops o ops.length
theorem firstTo_lt (ops : List Nat) (o : Nat) : ∀ k, -1 ≤ firstTo ops o k ∧ firstTo ops o k < k
  | 0 => by simp [firstTo]
  | k + 1 => by
    have := firstTo_lt ops o k
    unfold firstTo
    split <;> omega
abbrev opCells (ops : List Nat) : List Value := ops.map fun o : Nat => Value.int .i64 (o : Int)

set_option maxRecDepth 100000 in
set_option maxHeartbeats 1000000 in
theorem first_any (B : Nat) (v : Value) (ops : List Nat) (o : Nat) (w : World) (hO : w.ownsRow B 3 1 v ops.length (opCells ops)) (ho : o < 5) (hl : ops.length ≤ 100) (h5 : ∀ x ∈ ops, x < 5) :
    Calls Try.prog 11 #[v, .int .i64 (o : Int)] w fun e w' => e = .returned (.int .i64 (firstL ops o)) ∧ w = w' := by
  have hsv : ∃ A c, v = .slice A ops.length c := by
    rcases hO.2 with ⟨e, h0⟩ | ⟨g, cap, cur, e, _⟩
    · exact ⟨_, _, by rw [e, h0]⟩
    · exact ⟨_, _, e⟩
  obtain ⟨A, c, rfl⟩ := hsv
  generalize hn : ops.length = n at *
  have HO := Lib.hid hO; have Hn := Lib.hid hn; have H5 := Lib.hid h5
  clear hO hn h5
  go_enter Try.func11, Try.ntmps11
  go_wp2_with fail
  go_loopw [6, 5] (fun i a wr => ∃ k : Nat, k ≤ n ∧ i = .int .i64 k ∧ a = .int .i64 (firstTo ops o k) ∧ wr = w) (fun i _ _ => n - (intOf i).toNat)
  case atStart => exact ⟨0, by omega, rfl, rfl, rfl⟩
  case round =>
    obtain ⟨k, hk, rfl, rfl, hw⟩ := hrel
    subst hw
    have hf := firstTo_lt ops o k
    by_cases hlt : k < n
    · have hk0 : (0 : Int) ≤ (k : Int) := by omega
      have hkn : (k : Int) < (n : Int) := by omega
      obtain ⟨g, cap, hs, hgb, hgl⟩ := World.ownsRow.form HO.out (by omega)
      cases hs
      obtain ⟨x, hx⟩ : ∃ x, ops[k]? = some x := ⟨ops[k]'(by have := Hn.out; omega), List.getElem?_eq_getElem _⟩
      have hx5 := H5.out x (List.mem_of_getElem? hx)
      have hc : wr.cell? ⟨g, k, none⟩ = some (.int .i64 (x : Int)) := by
        have := HO.out.cells (g := g) rfl k (.int .i64 (x : Int)) (by simp [opCells, hx])
        rwa [add0] at this
      have hstep : firstTo ops o (k + 1) = if x = o ∧ (firstTo ops o k < 0 ∨ o = 3) then (k : Int) else firstTo ops o k := by
        rw [firstTo, hx]; simp
      generalize firstTo ops o k = F at *
      have HS := Lib.hid hstep
      clear hx hstep
      cases he : ((x : Int) == (o : Int)) <;> cases hF : decide (F < 0) <;> cases h3 : ((o : Int) == 3)
      all_goals
        go_wp2_with fail
        go_roundw
        case measure => simp [intOf]; omega
        case rel =>
          simp only [beq_iff_eq, beq_eq_false_iff_ne, ne_eq, decide_eq_true_eq, decide_eq_false_iff_not] at he hF h3
          refine ⟨k + 1, by omega, by go_num, ?_, trivial⟩
          rw [HS.out]
          first
          | (rw [if_pos (by omega)])
          | (rw [if_neg (by omega)])
    · obtain rfl : k = n := by omega
      have hfin : firstL ops o = firstTo ops o k := by unfold firstL; rw [Hn.out]
      have HF := Lib.hid hfin; clear hfin
      go_wp2_with fail
      go_ret
      exact ⟨ret_int HF.out.symm, rfl⟩

def joinF (k : Nat) (f g : Nat → Bool) : Nat → Bool :=
  if k = 0 then fun x => f x && g x else if k = 1 then fun x => f x ^^ g x else if k = 2 then fun x => f x || g x else if k = 3 then fun x => !f x || g x else fun x => !(f x ^^ g x)
set_option maxRecDepth 100000 in
set_option maxHeartbeats 4000000 in
theorem join_any (k : Nat) (hk : k < 5) (f g : Nat → Bool) (w : World) : Calls Try.prog 12 #[.int .i64 (k : Int), tabV f, tabV g] w fun e w' => e = .returned (tabV (joinF k f g)) ∧ Below w.heap.size w w' := by
  unfold tabV
  have hkk : k = 0 ∨ k = 1 ∨ k = 2 ∨ k = 3 ∨ k = 4 := by omega
  rcases hkk with rfl | rfl | rfl | rfl | rfl
  all_goals
    unfold tabCells
    go_enter Try.func12, Try.ntmps12
    go_wp2_with fail
  · refine (rand_any f g _).mono ?_
    rintro e w1 ⟨rfl, hb1⟩
    have R4 := (Blk.new2 w (.cells (tabCells f) 29) (.cells (tabCells g) 29) 29 zeroTab).keep hb1
    obtain ⟨⟨c0, c1, c2, c3⟩, f0, f1, f2, f3⟩ := R4.four
    have HR := Lib.hid R4; clear R4
    unfold tabV tabCells
    go_wp2_with fail
    exact ret_tab rfl _ _ rfl rfl (HR.out.put4 _ _ _ _) ⟨rfl, ((below3 w _ _ _).step hb1).put4 (by omega) _ _ _ _⟩
  · refine (rxor_any f g _).mono ?_
    rintro e w1 ⟨rfl, hb1⟩
    have R4 := (Blk.new2 w (.cells (tabCells f) 29) (.cells (tabCells g) 29) 29 zeroTab).keep hb1
    obtain ⟨⟨c0, c1, c2, c3⟩, f0, f1, f2, f3⟩ := R4.four
    have HR := Lib.hid R4; clear R4
    unfold tabV tabCells
    go_wp2_with fail
    exact ret_tab rfl _ _ rfl rfl (HR.out.put4 _ _ _ _) ⟨rfl, ((below3 w _ _ _).step hb1).put4 (by omega) _ _ _ _⟩
  · refine (ror_any f g _).mono ?_
    rintro e w1 ⟨rfl, hb1⟩
    have R4 := (Blk.new2 w (.cells (tabCells f) 29) (.cells (tabCells g) 29) 29 zeroTab).keep hb1
    obtain ⟨⟨c0, c1, c2, c3⟩, f0, f1, f2, f3⟩ := R4.four
    have HR := Lib.hid R4; clear R4
    unfold tabV tabCells
    go_wp2_with fail
    exact ret_tab rfl _ _ rfl rfl (HR.out.put4 _ _ _ _) ⟨rfl, ((below3 w _ _ _).step hb1).put4 (by omega) _ _ _ _⟩
  · obtain ⟨W, hW⟩ : ∃ W : World, W = ((w.alloc (.cells (tabCells f) 29)).alloc (.cells (tabCells g) 29)).alloc (.cells zeroTab 29) := ⟨_, rfl⟩
    have hB : Below w.heap.size w W := hW ▸ below3 w _ _ _
    have hsz : w.heap.size + 2 < W.heap.size := by rw [hW]; simp
    obtain ⟨⟨a0, a1, a2, a3⟩, _, _, _, _⟩ := Blk.four (show Blk W w.heap.size 29 (tabCells f) from hW ▸ (((Blk.new w _ _).alloc _).alloc _))
    obtain ⟨⟨b0, b1, b2, b3⟩, _, _, _, _⟩ := Blk.four (show Blk W (w.heap.size + 1) 29 (tabCells g) from hW ▸ ((Blk.new1 w _ _ _).alloc _))
    have HZ := Lib.hid (show Blk W (w.heap.size + 1 + 1) 29 zeroTab from hW ▸ (Blk.new2 w _ _ _ _))
    unfold tabCells zeroTab at hW
    rw [← hW]
    clear hW
    go_region_held3 (fun w' => ∀ p : Addr, p.block < w.heap.size + 2 → w'.cell? p = W.cell? p)
      (first
        | with_reducible exact fun p hp => hb1.of_drew.cell (by omega)
        | with_reducible exact fun p hp => hB2.cell (by omega)
        | (intro p hp; rw [cell_put4 (by omega)]; exact hB2.cell (by omega))
        | exact fun _ _ => rfl)
      (first
        | (go_at_call 26; (with_reducible refine (rnot_any f _).mono ?_); rintro e w1 ⟨rfl, hb1⟩)
        | (go_at_call 25; (with_reducible refine (ror_any (fun x => !f x) g _).mono ?_); rintro e w2 ⟨rfl, hb2⟩;
           have hB2 := hb1.of_drew.step hb2; have R4 := HZ.out.keep hB2; obtain ⟨⟨c0, c1, c2, c3⟩, f0, f1, f2, f3⟩ := R4.four; have HR := Lib.hid R4; clear R4; unfold tabV tabCells))
    go_wp2_with fail
    exact ret_tab rfl _ _ rfl rfl (HR.out.put4 _ _ _ _) ⟨rfl, (hB.step hB2).put4 (by omega) _ _ _ _⟩
  · refine (rxor_any f g _).mono ?_
    rintro e w1 ⟨rfl, hb1⟩
    have HZ := Lib.hid ((Blk.new2 w (.cells (tabCells f) 29) (.cells (tabCells g) 29) 29 zeroTab).keep hb1)
    have HB := Lib.hid ((below3 w (.cells (tabCells f) 29) (.cells (tabCells g) 29) (.cells zeroTab 29)).step hb1)
    have hsz := hb1.le
    simp only [World.size_alloc] at hsz
    clear hb1
    go_wp2_with fail
    refine (rnot_any (fun x => f x ^^ g x) _).mono ?_
    rintro e w2 ⟨rfl, hb2⟩
    have R4 := HZ.out.keep hb2
    obtain ⟨⟨c0, c1, c2, c3⟩, f0, f1, f2, f3⟩ := R4.four
    have HR := Lib.hid R4; clear R4
    unfold tabV tabCells
    go_wp2_with fail
    exact ret_tab rfl _ _ rfl rfl (HR.out.put4 _ _ _ _) ⟨rfl, (HB.out.step hb2).put4 (by omega) _ _ _ _⟩
end Go.Proofs.Ytmjpecjciibngaa
