/- The print of a formula: quantifiers, ite, the signs between. The print of a formula: quantifiers, ite, the signs between. put and Print of whatever formula. -/
import Derived.Test.YtmjpecjciibngaaBPuta
namespace Go.Proofs.Ytmjpecjciibngaa
open Go.RowKit
set_option linter.unusedVariables false

set_option maxRecDepth 100000 in
set_option maxHeartbeats 4000000 in
theorem put_ite (a v0 : Int) (t1 t2 t3 : Tree) (ha : InC t1) (hb : InC t2) (hc : InC t3) : PutC (.node 9 a v0 [t1, t2, t3]) := by
  intro B v s x w hO hB hl hE
  unfold ExprV at hE
  obtain ⟨A, cap, rfl, hK⟩ := hE
  have hl' : s.length + (printT t1).length + (printT t2).length + (printT t3).length + 15 ≤ 1000000 := by simp [printT, printL, nodeB, inB, nthB] at hl; omega
  clear hl
  obtain ⟨W, hW⟩ : ∃ W : World, W = w.alloc (.cells #[.int .i64 9, .int .i64 a, .int .i64 v0, .slice A 3 cap] 36) := ⟨_, rfl⟩
  have hBW : Below w.heap.size w W := hW ▸ below1 w _
  obtain ⟨g, o, ka, aa, va, Aa, na, ca, rfl, hgB, ⟨a0, a1, a2, a3⟩, hEa⟩ := kid_cells hK hB hBW 0 t1 rfl
  obtain ⟨g2, o2, kb, ab, vb, Ab, nb, cb, e2, _, ⟨b0, b1, b2, b3⟩, hEb⟩ := kid_cells hK hB hBW 1 t2 rfl
  cases e2
  obtain ⟨g2, o2, kc, ac, vc, Ac, nc, cc, e2, _, ⟨d0, d1, d2, d3⟩, hEc⟩ := kid_cells hK hB hBW 2 t3 rfl
  cases e2
  have Q0 : Puts B v w v s W := ⟨hO.kept hBW, grown_below hBW _, Lies.refl _ _⟩
  have hsz : w.heap.size + 1 = W.heap.size := by rw [hW]; simp
  obtain ⟨⟨x0, x1, x2, x3⟩, _⟩ := (show Blk W w.heap.size 36 #[.int .i64 9, .int .i64 a, .int .i64 v0, .slice (some ⟨g, o, none⟩) 3 cap] from hW ▸ Blk.new w _ _).four
  have hne : some w.heap.size ≠ v.ownBlock := hO.ne (Nat.le_refl _)
  simp only [Nat.zero_mul, Nat.add_zero, Nat.one_mul, Nat.reduceMul] at a0 a1 a2 a3 b0 b1 b2 b3 d0 d1 d2 d3
  have HO := Lib.hid hO; have HEa := Lib.hid hEa; have HEb := Lib.hid hEb; have Ha := Lib.hid ha; have Hb := Lib.hid hb; have HQ0 := Lib.hid Q0; have HW := Lib.hid hW
  have HEc := Lib.hid hEc; have Hc := Lib.hid hc
  clear hO hEa hEb ha hb Q0 hBW hK hW hEc hc
  go_enter Try.func35, Try.ntmps35
  go_wp2_with fail
  rw [← HW.out]
  go_region_held3 (fun w' => w.heap.size < w'.heap.size ∧ ∀ p : Addr, (p.block < B ∨ p.block = w.heap.size) → w'.cell? p = W.cell? p)
    (first
      | exact ⟨by simp; omega, fun p _ => rfl⟩
      | exact stays_puts (by assumption) hB HO.out hne hP1
      | exact stays_puts (by assumption) hB Q1.own hn1 hP2)
    (first
      | (refine step_run (by rfl) _ _ _ _ (by rfl) _ _ (by rfl) (by rfl) (HQ0.out.text hB ((below_drew W)) [105, 116, 101, 40] _ (by simp; omega)) ?_; rintro v1 w1 ⟨Q1, hP1⟩; have hn1 := hP1.ne (g := w.heap.size) (by simp; omega) hne)
      | (go_at_call 53; (with_reducible refine (Ha.out.call B v1 (s ++ [105, 116, 101, 40]) _ _ (by first | exact Q1.own | exact Q1.own.kept (below1 _ _)) (by have := Q1.size; simp; omega) (by simp [inB]; omega) (stays_expr (by assumption) HEa.out)).mono ?_); rintro e w2 ⟨v2, rfl, hP2⟩;
         have Q2 : Puts B v w v2 (s ++ [105, 116, 101, 40] ++ inB (printT t1)) w2 := (by first | exact Q1.next (Below.refl _ _) hP2 | exact Q1.next (below1 _ _) hP2);
         have hn2 := hP2.ne (g := w.heap.size) (by have := Q1.size; simp; omega) hn1))
  have T2 : Stays B w.heap.size W w2 := (by first | assumption | exact stays_puts (by assumption) hB Q1.own hn1 hP2)
  have HQ2 := Lib.hid Q2; have hz2 := Q2.size; have ht2 := T2.1; have HT2 := Lib.hid T2
  clear Q1 Q2 hP1 hP2 T2
  go_wp2_with fail
  go_region_held3 (fun w' => w.heap.size < w'.heap.size ∧ ∀ p : Addr, (p.block < B ∨ p.block = w.heap.size) → w'.cell? p = W.cell? p)
    (first
      | exact ⟨HT2.out.1, HT2.out.2⟩
      | exact stays_puts (by assumption) hB HQ2.out.own hn2 hP3
      | exact stays_puts (by assumption) hB Q3.own hn3 hP4)
    (first
      | (refine step_run (by rfl) _ _ _ _ (by rfl) _ _ (by rfl) (by rfl) (HQ2.out.text hB (below_drew _) [44, 32] _ (by simp [inB]; omega)) ?_; rintro v3 w3 ⟨Q3, hP3⟩; have hn3 := hP3.ne (g := w.heap.size) (by simp; omega) hn2)
      | (go_at_call 53; (with_reducible refine (Hb.out.call B v3 (s ++ [105, 116, 101, 40] ++ inB (printT t1) ++ [44, 32]) _ _ (by first | exact Q3.own | exact Q3.own.kept (below1 _ _)) (by have := Q3.size; simp; omega) (by simp [inB]; omega) (stays_expr (by assumption) HEb.out)).mono ?_); rintro e w4 ⟨v4, rfl, hP4⟩;
         have Q4 : Puts B v w v4 (s ++ [105, 116, 101, 40] ++ inB (printT t1) ++ [44, 32] ++ inB (printT t2)) w4 := (by first | exact Q3.next (Below.refl _ _) hP4 | exact Q3.next (below1 _ _) hP4);
         have hn4 := hP4.ne (g := w.heap.size) (by have := Q3.size; simp; omega) hn3))
  have T4 : Stays B w.heap.size W w4 := (by first | assumption | exact stays_puts (by assumption) hB Q3.own hn3 hP4)
  have HQ4 := Lib.hid Q4; have hz4 := Q4.size; have HT4 := Lib.hid T4
  clear Q3 Q4 hP3 hP4 T4
  go_wp2_with fail
  go_region_held3 (fun w' => w.heap.size < w'.heap.size ∧ ∀ p : Addr, (p.block < B ∨ p.block = w.heap.size) → w'.cell? p = W.cell? p)
    (first
      | exact ⟨HT4.out.1, HT4.out.2⟩
      | exact stays_below (by assumption) hB (below1 _ _)
      | exact stays_puts (by assumption) hB HQ4.out.own hn4 hP5
      | exact stays_puts (by assumption) hB Q5.own hn5 hP6
      | exact stays_puts (by assumption) hB Q6.own hn6 hP7)
    (first
      | (refine step_run (by rfl) _ _ _ _ (by rfl) _ _ (by rfl) (by rfl) (HQ4.out.text hB (by first | exact below_drew _ | exact (below_drew _).alloc (Nat.le_refl _) _) [44, 32] _ (by simp [inB]; omega)) ?_; rintro v5 w5 ⟨Q5, hP5⟩; have hn5 := hP5.ne (g := w.heap.size) (by simp; omega) hn4)
      | (go_at_call 53; (with_reducible refine (Hc.out.call B v5 (s ++ [105, 116, 101, 40] ++ inB (printT t1) ++ [44, 32] ++ inB (printT t2) ++ [44, 32]) _ _ (by first | exact Q5.own | exact Q5.own.kept (below1 _ _)) (by have := Q5.size; simp; omega) (by simp [inB]; omega) (stays_expr (by assumption) HEc.out)).mono ?_); rintro e w6 ⟨v6, rfl, hP6⟩;
         have Q6 : Puts B v w v6 (s ++ [105, 116, 101, 40] ++ inB (printT t1) ++ [44, 32] ++ inB (printT t2) ++ [44, 32] ++ inB (printT t3)) w6 := (by first | exact Q5.next (Below.refl _ _) hP6 | exact Q5.next (below1 _ _) hP6);
         have hn6 := hP6.ne (g := w.heap.size) (by have := Q5.size; simp; omega) hn5)
      | (refine step_run (by rfl) _ _ _ _ (by rfl) _ _ (by rfl) (by rfl) (Q6.bytes (by omega) (by first | exact Below.refl _ _ | exact below1 _ _) 41 _ _ _ _ (by first | exact Blk.new _ _ _ | exact hP6.keepBlk (Blk.new _ _ _) (Q5.own.ne (Nat.le_refl _)) | exact hP6.keepBlk (hP5.keepBlk (Blk.new _ _ _) (HQ4.out.own.ne (Nat.le_refl _))) (hP5.ne (by simp) (HQ4.out.own.ne (Nat.le_refl _)))) rfl _ (by simp [inB]; omega)) ?_; rintro v7 w7 ⟨Q7, hP7⟩))
  all_goals
    have HQ := Lib.hid Q7
    clear Q5 Q6 Q7 hP5 hP6 hP7
    go_wp2_with fail
    go_ret
    exact ⟨v7, rfl, by have := HQ.out; simpa [printT, printL, nodeB, nthB, List.append_assoc] using this⟩

end Go.Proofs.Ytmjpecjciibngaa
namespace Go.Proofs.Ytmjpecjciibngaa
open Go.RowKit
set_option linter.unusedVariables false

set_option maxRecDepth 100000 in
set_option maxHeartbeats 4000000 in
theorem put_bin (k a v0 : Int) (hk : 4 ≤ k ∧ k ≤ 8) (t1 t2 : Tree) (ha : InC t1) (hb : InC t2) : PutC (.node k a v0 [t1, t2]) := by
  have f1 : (k == 1) = false := by simp; omega
  have f2 : (k == 2) = false := by simp; omega
  have f3 : (k == 3) = false := by simp; omega
  have f9 : (k == 9) = false := by simp; omega
  have f10 : (k == 10) = false := by simp; omega
  have f11 : (k == 11) = false := by simp; omega
  have hnode : printT (.node k a v0 [t1, t2]) = [40] ++ (inB (printT t1) ++ ((32 :: (sgL k ++ [32])) ++ (inB (printT t2) ++ [41]))) := by
    simp only [beq_eq_false_iff_ne, ne_eq] at f1 f2 f3 f9 f10 f11
    simp only [printT, printL, nodeB, f1, f2, f3, f9, f10, f11, if_false]
    rfl
  have hsg : (sgL k).length ≤ 3 := by unfold sgL; (repeat' split) <;> simp
  have hs1 : (str (sgL k)).size ≤ 10 := by rw [size_str]; omega
  have hcat1 : (⟨#[32]⟩ : ByteArray) ++ str (sgL k) = str (32 :: sgL k) := by
    rw [show (⟨#[32]⟩ : ByteArray) = str [32] from rfl, str_cat]; rfl
  have hs2 : (str (32 :: sgL k)).size ≤ 10 := by rw [size_str]; simp; omega
  have hcat2 : str (32 :: sgL k) ++ ⟨#[32]⟩ = str (32 :: (sgL k ++ [32])) := by
    rw [show (⟨#[32]⟩ : ByteArray) = str [32] from rfl, str_cat]; rfl
  intro B v s x w hO hB hl hE
  unfold ExprV at hE
  obtain ⟨A, cap, rfl, hK⟩ := hE
  have hl' : s.length + (printT t1).length + (printT t2).length + (sgL k).length + 8 ≤ 1000000 := by rw [hnode] at hl; simp [inB] at hl; omega
  clear hl
  obtain ⟨W, hW⟩ : ∃ W : World, W = w.alloc (.cells #[.int .i64 k, .int .i64 a, .int .i64 v0, .slice A 2 cap] 36) := ⟨_, rfl⟩
  have hBW : Below w.heap.size w W := hW ▸ below1 w _
  obtain ⟨g, o, ka, aa, va, Aa, na, ca, rfl, hgB, ⟨a0, a1, a2, a3⟩, hEa⟩ := kid_cells hK hB hBW 0 t1 rfl
  obtain ⟨g2, o2, kb, ab, vb, Ab, nb, cb, e2, _, ⟨b0, b1, b2, b3⟩, hEb⟩ := kid_cells hK hB hBW 1 t2 rfl
  cases e2
  have Q0 : Puts B v w v s W := ⟨hO.kept hBW, grown_below hBW _, Lies.refl _ _⟩
  have hsz : w.heap.size + 1 = W.heap.size := by rw [hW]; simp
  obtain ⟨⟨x0, x1, x2, x3⟩, _⟩ := (show Blk W w.heap.size 36 #[.int .i64 k, .int .i64 a, .int .i64 v0, .slice (some ⟨g, o, none⟩) 2 cap] from hW ▸ Blk.new w _ _).four
  have hne : some w.heap.size ≠ v.ownBlock := hO.ne (Nat.le_refl _)
  simp only [Nat.zero_mul, Nat.add_zero, Nat.one_mul] at a0 a1 a2 a3 b0 b1 b2 b3
  have HO := Lib.hid hO; have HEa := Lib.hid hEa; have HEb := Lib.hid hEb; have Ha := Lib.hid ha; have Hb := Lib.hid hb; have HQ0 := Lib.hid Q0; have HW := Lib.hid hW
  have HN := Lib.hid hnode
  have m1 : ¬ 9223372036854775807 < 1 + (str (sgL k)).size := by omega
  have m2 : ¬ 9223372036854775807 < (str (32 :: sgL k)).size + 1 := by omega
  clear hnode
  clear hO hEa hEb ha hb Q0 hBW hK hW
  go_enter Try.func35, Try.ntmps35
  go_wp2_with fail
  rw [← HW.out]
  go_region_held3 (fun w' => w.heap.size < w'.heap.size ∧ ∀ p : Addr, (p.block < B ∨ p.block = w.heap.size) → w'.cell? p = W.cell? p)
    (first
      | exact ⟨by simp; omega, fun p _ => rfl⟩
      | exact stays_below (by assumption) hB (below1 _ _)
      | exact stays_puts (by assumption) hB HO.out hne hP1
      | exact stays_puts (by assumption) hB Q1.own hn1 hP2)
    (first
      | (refine step_run (by rfl) _ _ _ _ (by rfl) _ _ (by rfl) (by rfl) (HQ0.out.bytes hB ((below_drew W).alloc (Nat.le_refl _) _) 40 _ _ _ _ (Blk.new _ _ _) rfl _ (by omega)) ?_; rintro v1 w1 ⟨Q1, hP1⟩; have hn1 := hP1.ne (g := w.heap.size) (by simp; omega) hne)
      | (go_at_call 53; (with_reducible refine (Ha.out.call B v1 (s ++ [40]) _ _ (by first | exact Q1.own | exact Q1.own.kept (below1 _ _)) (by have := Q1.size; simp; omega) (by simp [inB]; omega) (stays_expr (by assumption) HEa.out)).mono ?_); rintro e w2 ⟨v2, rfl, hP2⟩;
         have Q2 : Puts B v w v2 (s ++ [40] ++ inB (printT t1)) w2 := (by first | exact Q1.next (Below.refl _ _) hP2 | exact Q1.next (below1 _ _) hP2);
         have hn2 := hP2.ne (g := w.heap.size) (by have := Q1.size; simp; omega) hn1))
  have T2 : Stays B w.heap.size W w2 := (by first | assumption | exact stays_puts (by assumption) hB Q1.own hn1 hP2)
  have HQ2 := Lib.hid Q2; have hz2 := Q2.size; have ht2 := T2.1; have HT2 := Lib.hid T2
  clear Q1 Q2 hP1 hP2 T2
  go_wp2_with fail
  go_region_held3 (fun w' => w.heap.size < w'.heap.size ∧ ∀ p : Addr, (p.block < B ∨ p.block = w.heap.size) → w'.cell? p = W.cell? p)
    (first
      | exact ⟨HT2.out.1, HT2.out.2⟩
      | exact stays_below (by assumption) hB (below1 _ _)
      | exact stays_puts (by assumption) hB HQ2.out.own hn2 hP3
      | exact stays_puts (by assumption) hB Q3.own hn3 hP4
      | exact stays_puts (by assumption) hB Q4.own hn4 hP5
      | assumption)
    (first
      | (go_at_call 55; (with_reducible refine (sign_any k _).mono ?_); rintro e wsg ⟨rfl, rfl⟩)
      | (refine step_run (by rfl) _ _ _ _ (by rfl) _ _ (by rfl) (by rfl) (HQ2.out.text hB (by first | exact below_drew _ | exact (below_drew _).alloc (Nat.le_refl _) _) (32 :: (sgL k ++ [32])) _ (by simp [inB]; omega)) ?_; rintro v3 w3 ⟨Q3, hP3⟩; have hn3 := hP3.ne (g := w.heap.size) (by simp; omega) hn2)
      | (go_at_call 53; (with_reducible refine (Hb.out.call B v3 (s ++ [40] ++ inB (printT t1) ++ 32 :: (sgL k ++ [32])) _ _ (by first | exact Q3.own | exact Q3.own.kept (below1 _ _)) (by have := Q3.size; simp; omega) (by simp [inB]; omega) (stays_expr (by assumption) HEb.out)).mono ?_); rintro e w4 ⟨v4, rfl, hP4⟩;
         have Q4 : Puts B v w v4 (s ++ [40] ++ inB (printT t1) ++ 32 :: (sgL k ++ [32]) ++ inB (printT t2)) w4 := (by first | exact Q3.next (Below.refl _ _) hP4 | exact Q3.next (below1 _ _) hP4);
         have hn4 := hP4.ne (g := w.heap.size) (by have := Q3.size; simp; omega) hn3)
      | (refine step_run (by rfl) _ _ _ _ (by rfl) _ _ (by rfl) (by rfl) (Q4.bytes (by omega) (by first | exact Below.refl _ _ | exact below1 _ _) 41 _ _ _ _ (by first | exact Blk.new _ _ _ | exact hP4.keepBlk (Blk.new _ _ _) (Q3.own.ne (Nat.le_refl _)) | exact hP4.keepBlk (hP3.keepBlk (Blk.new _ _ _) (HQ2.out.own.ne (Nat.le_refl _))) (hP3.ne (by simp) (HQ2.out.own.ne (Nat.le_refl _)))) rfl _ (by simp [inB]; omega)) ?_; rintro v5 w5 ⟨Q5, hP5⟩))
  all_goals
    have HQ := Lib.hid Q5
    clear Q3 Q4 Q5 hP3 hP4 hP5
    go_wp2_with fail
    go_ret
    exact ⟨v5, rfl, by have := HQ.out; rw [HN.out]; simpa [List.append_assoc] using this⟩

end Go.Proofs.Ytmjpecjciibngaa
namespace Go.Proofs.Ytmjpecjciibngaa
open Go.RowKit
set_option linter.unusedVariables false

theorem lenK0 {l : List Tree} (h : (l.length : Int) = 0) : l = [] := List.length_eq_zero_iff.1 (by omega)
theorem lenK1 {l : List Tree} (h : (l.length : Int) = 1) : ∃ a, l = [a] := by
  match l, h with
  | [a], _ => exact ⟨a, rfl⟩
  | [], h => simp at h
  | _ :: _ :: _, h => simp at h; omega
theorem lenK2 {l : List Tree} (h : (l.length : Int) = 2) : ∃ a b, l = [a, b] := by
  match l, h with
  | [a, b], _ => exact ⟨a, b, rfl⟩
  | [], h => simp at h
  | [_], h => simp at h
  | _ :: _ :: _ :: _, h => simp at h; omega
theorem lenK3 {l : List Tree} (h : (l.length : Int) = 3) : ∃ a b c, l = [a, b, c] := by
  match l, h with
  | [a, b, c], _ => exact ⟨a, b, c, rfl⟩
  | [], h => simp at h
  | [_], h => simp at h
  | [_, _], h => simp at h
  | _ :: _ :: _ :: _ :: _, h => simp at h; omega
theorem put_node (k a v : Int) (ks : List Tree) (hp : plainB k v ks.length = true) (IH : ∀ t ∈ ks, PutC t) : PutC (.node k a v ks) := by
  unfold plainB at hp
  simp only [decide_eq_true_eq] at hp
  obtain ⟨h1, h11, hl, hv0, hv⟩ := hp
  have hk : k = 1 ∨ k = 2 ∨ k = 3 ∨ k = 4 ∨ k = 5 ∨ k = 6 ∨ k = 7 ∨ k = 8 ∨ k = 9 ∨ k = 10 ∨ k = 11 := by omega
  rcases hk with rfl | rfl | rfl | rfl | rfl | rfl | rfl | rfl | rfl | rfl | rfl
  · have hv7 : v ≤ 7 := hv
    obtain ⟨u, rfl⟩ : ∃ u : Nat, v = (u : Int) := ⟨v.toNat, by omega⟩
    intro B w0 s x w hO hB hs hE
    unfold ExprV at hE
    obtain ⟨A, c, rfl, _⟩ := hE
    exact put_var B w0 s a u A _ c w hO hB (by omega) (by omega)
  · have hv7 : v ≤ 1 := hv
    obtain ⟨u, rfl⟩ : ∃ u : Nat, v = (u : Int) := ⟨v.toNat, by omega⟩
    intro B w0 s x w hO hB hs hE
    unfold ExprV at hE
    obtain ⟨A, c, rfl, _⟩ := hE
    exact put_const B w0 s a u A _ c w hO hB (by omega) (by omega)
  · obtain ⟨t1, rfl⟩ := lenK1 hl
    exact put_not a v t1 (in_any t1 (IH t1 (by simp)))
  · obtain ⟨t1, t2, rfl⟩ := lenK2 hl
    exact put_bin 4 a v (by omega) t1 t2 (in_any t1 (IH t1 (by simp))) (in_any t2 (IH t2 (by simp)))
  · obtain ⟨t1, t2, rfl⟩ := lenK2 hl
    exact put_bin 5 a v (by omega) t1 t2 (in_any t1 (IH t1 (by simp))) (in_any t2 (IH t2 (by simp)))
  · obtain ⟨t1, t2, rfl⟩ := lenK2 hl
    exact put_bin 6 a v (by omega) t1 t2 (in_any t1 (IH t1 (by simp))) (in_any t2 (IH t2 (by simp)))
  · obtain ⟨t1, t2, rfl⟩ := lenK2 hl
    exact put_bin 7 a v (by omega) t1 t2 (in_any t1 (IH t1 (by simp))) (in_any t2 (IH t2 (by simp)))
  · obtain ⟨t1, t2, rfl⟩ := lenK2 hl
    exact put_bin 8 a v (by omega) t1 t2 (in_any t1 (IH t1 (by simp))) (in_any t2 (IH t2 (by simp)))
  · obtain ⟨t1, t2, t3, rfl⟩ := lenK3 hl
    exact put_ite a v t1 t2 t3 (in_any t1 (IH t1 (by simp))) (in_any t2 (IH t2 (by simp))) (in_any t3 (IH t3 (by simp)))
  · have hv7 : v ≤ 7 := hv
    obtain ⟨u, rfl⟩ : ∃ u : Nat, v = (u : Int) := ⟨v.toNat, by omega⟩
    obtain ⟨t1, rfl⟩ := lenK1 hl
    exact put_all a u (by omega) t1 (in_any t1 (IH t1 (by simp)))
  · have hv7 : v ≤ 7 := hv
    obtain ⟨u, rfl⟩ : ∃ u : Nat, v = (u : Int) := ⟨v.toNat, by omega⟩
    obtain ⟨t1, rfl⟩ := lenK1 hl
    exact put_some a u (by omega) t1 (in_any t1 (IH t1 (by simp)))
mutual
theorem put_tree : ∀ t : Tree, allP t = true → PutC t
  | .node k a v ks, h => by
    unfold allP at h
    rw [Bool.and_eq_true] at h
    exact put_node k a v ks h.1 (put_trees ks h.2)
theorem put_trees : ∀ l : List Tree, allPL l = true → ∀ t ∈ l, PutC t
  | [], _, t, ht => absurd ht (by simp)
  | u :: us, h, t, ht => by
    unfold allPL at h
    rw [Bool.and_eq_true] at h
    rcases List.mem_cons.1 ht with e | ht
    · rw [e]; exact put_tree u h.1
    · exact put_trees us h.2 t ht
end

def printS (t : Tree) : Bs := if isT t then printT t else []
theorem printT_ne : ∀ t : Tree, printT t ≠ []
  | .node k a v ks => by unfold printT nodeB; (repeat' split) <;> simp
set_option maxRecDepth 100000 in
set_option maxHeartbeats 2000000 in
theorem print_any {ok : Nat → Prop} (t : Tree) (x : Value) (w : World) (hsm : smallT t = true) (hl : (printT t).length ≤ 1000000) (hE : ExprV ok w t x) :
    Calls Try.prog 16 #[x] w fun e w' => e = .returned (.string (str (printS t))) ∧ Below w.heap.size w w' := by
  obtain ⟨xk, xa, xv, xA, xn, xc, rfl⟩ := hE.four
  have HE := Lib.hid (hE.alloc (.cells #[.int .i64 xk, .int .i64 xa, .int .i64 xv, .slice xA xn xc] 36)); have HS := Lib.hid hsm
  clear hE hsm
  cases hT : isT t
  · have hP : printS t = [] := by unfold printS; rw [hT]; rfl
    have HT := Lib.hid hT; have HP := Lib.hid hP
    clear hT hP
    go_enter Try.func16, Try.ntmps16
    go_wp2_with fail
    refine (is_ok t _ _ HS.out HE.out).mono ?_
    rintro e w1 ⟨rfl, hb1⟩
    rw [HT.out]
    go_wp2_with fail
    go_ret
    rw [HP.out]
    exact ⟨rfl, (below1 _ _).step hb1⟩
  · have hP : printS t = printT t := by unfold printS; rw [hT]; rfl
    have hA := allP_of_isT hT
    have HT := Lib.hid hT; have HP := Lib.hid hP; have HA := Lib.hid hA
    clear hT hP hA
    go_enter Try.func16, Try.ntmps16
    go_wp2_with fail
    refine (is_ok t _ _ HS.out HE.out).mono ?_
    rintro e w1 ⟨rfl, hb1⟩
    rw [HT.out]
    have hX := (Blk.new w 36 #[.int .i64 xk, .int .i64 xa, .int .i64 xv, .slice xA xn xc]).keep hb1
    obtain ⟨⟨x0, x1, x2, x3⟩, _⟩ := hX.four
    have hB1 := (below1 w _).step hb1
    have HE1 : Hid (ExprV (fun g => g < w1.heap.size) w1 t (.agg #[.int .i64 xk, .int .i64 xa, .int .i64 xv, .slice xA xn xc])) := Lib.hid (ExprV.mono (fun g hg _ => hg) _ _ (HE.out.keep hb1))
    have HB1 := Lib.hid hB1
    clear hb1 hX hB1
    go_wp2_with fail
    refine ((put_tree t HA.out).call w1.heap.size (.slice none 0 0) [] _ w1 (OwnB.nil _ _) (Nat.le_refl _) (by simpa using hl) HE1.out).mono ?_
    rintro e w2 ⟨v', rfl, hP⟩
    have hk := hP.1.conv (printT_ne t)
    have hB2 : Below w1.heap.size w1 w2 := ⟨hP.2.1.os, hP.2.1.tape, hP.2.1.output, hP.2.1.size, fun i hi => hP.2.1.block i hi (by simp [Value.ownBlock])⟩
    have HQ := Lib.hid hP; clear hP
    go_wp2_with fail
    go_ret
    rw [HP.out]
    exact ⟨rfl, HB1.out.step hB2⟩
end Go.Proofs.Ytmjpecjciibngaa
