/- Same: two formulas are alike, but for their places. -/
import Derived.Test.YtmjpecjciibngaaTb1
namespace Go.Proofs.Ytmjpecjciibngaa
open Go.RowKit
set_option linter.unusedVariables false

mutual
def sameT : Tree → Tree → Bool
  | .node k _ v ks, .node k' _ v' ks' => (k == k') && ((v == v') && ((ks.length == ks'.length) && sameL ks ks'))
def sameL : List Tree → List Tree → Bool
  | [], _ => true
  | _ :: _, [] => true
  | t :: ts, u :: us => sameT t u && sameL ts us
end
theorem sameL_no : ∀ (l m : List Tree) (i : Nat) (t u : Tree), l[i]? = some t → m[i]? = some u → sameT t u = false → sameL l m = false
  | [], _, i, t, u, h, _, _ => by simp at h
  | _ :: _, [], i, t, u, _, h, _ => by simp at h
  | a :: l, b :: m, 0, t, u, h1, h2, h => by
    cases h1; cases h2
    unfold sameL; rw [h]; rfl
  | a :: l, b :: m, i + 1, t, u, h1, h2, h => by
    unfold sameL
    rw [sameL_no l m i t u (by simpa using h1) (by simpa using h2) h, Bool.and_false]
theorem sameL_yes : ∀ (l m : List Tree), (∀ (i : Nat) (t u : Tree), l[i]? = some t → m[i]? = some u → sameT t u = true) → sameL l m = true
  | [], _, _ => by unfold sameL; rfl
  | _ :: _, [], _ => by unfold sameL; rfl
  | a :: l, b :: m, h => by
    unfold sameL
    rw [h 0 a b rfl rfl, sameL_yes l m fun i t u h1 h2 => h (i + 1) t u (by simpa using h1) (by simpa using h2)]; rfl

/-- What Same must do for a formula. -/
def SameC (t : Tree) : Prop := ∀ (ok ok' : Nat → Prop) (u : Tree) (x y : Value) (w : World), ExprV ok w t x → ExprV ok' w u y → Calls Try.prog 17 #[x, y] w fun e w' => e = .returned (.bool (sameT t u)) ∧ Below w.heap.size w w'
theorem SameC.call {t : Tree} (h : SameC t) (ok ok' : Nat → Prop) (u : Tree) (x y : Value) (w : World) (h1 : ExprV ok w t x) (h2 : ExprV ok' w u y) : Calls Try.prog 17 #[x, y] w fun e w' => e = .returned (.bool (sameT t u)) ∧ Below w.heap.size w w' := h ok ok' u x y w h1 h2
set_option maxRecDepth 100000 in
set_option maxHeartbeats 2000000 in
theorem equal_any (ok ok' : Nat → Prop) (ks ks' : List Tree) (IH : ∀ t ∈ ks, SameC t) (A A' : Option Addr) (c c' : Nat) (w : World) (h1 : KidsV ok w ks A 0) (h2 : KidsV ok' w ks' A' 0) (hl : ks.length ≤ 9223372036854775807) :
    Calls Try.prog 36 #[.slice A ks.length c, .slice A' ks'.length c', .func (.func 17) #[] #[]] w fun e w' => e = .returned (.bool ((ks.length == ks'.length) && sameL ks ks')) ∧ Below w.heap.size w w' := by
  generalize hn : ks.length = n at *
  generalize hn' : ks'.length = n' at *
  have HI := Lib.hid IH; have H1 := Lib.hid h1; have H2 := Lib.hid h2; have Hn := Lib.hid hn; have Hn' := Lib.hid hn'
  clear IH h1 h2 hn hn'
  by_cases hnn : n = n'
  · subst hnn
    have hbn : (n == n) = true := by simp
    rw [hbn, Bool.true_and]
    clear hbn
    go_enter Try.func36, Try.ntmps36
    go_wp2_with fail
    go_loopw [17] (fun i wr => ∃ k : Nat, k ≤ n ∧ i = .int .i64 k ∧ Below w.heap.size w wr ∧ ∀ (j : Nat) (t u : Tree), j < k → ks[j]? = some t → ks'[j]? = some u → sameT t u = true) (fun i _ => n - (intOf i).toNat)
    case atStart => exact ⟨0, by omega, rfl, Below.refl _ _, fun j t u hj => absurd hj (by omega)⟩
    case round =>
      obtain ⟨k, hk, rfl, hb, hall⟩ := hrel
      have HAll := Lib.hid hall; clear hall
      by_cases hlt : k < n
      · obtain ⟨t, ht⟩ : ∃ t, ks[k]? = some t := ⟨ks[k]'(by have := Hn.out; omega), List.getElem?_eq_getElem _⟩
        obtain ⟨u, hu⟩ : ∃ u, ks'[k]? = some u := ⟨ks'[k]'(by have := Hn'.out; omega), List.getElem?_eq_getElem _⟩
        obtain ⟨g, o, xk, xa, xv, xA, xn, xc, rfl, hg, q0, q1, q2, q3, hE⟩ := KidsV.get _ _ _ _ H1.out ht
        obtain ⟨g2, o2, yk, ya, yv, yA, yn, yc, rfl, hg2, r0, r1, r2, r3, hF⟩ := KidsV.get _ _ _ _ H2.out hu
        have hgl := World.block_lt_of_cell? _ _ q0
        have hgl2 := World.block_lt_of_cell? _ _ r0
        simp only at hgl hgl2
        replace q0 := (hb.cell (p := ⟨g, o + k * 4, none⟩) hgl).trans q0
        replace q1 := (hb.cell (p := ⟨g, o + k * 4 + 1, none⟩) hgl).trans q1
        replace q2 := (hb.cell (p := ⟨g, o + k * 4 + 2, none⟩) hgl).trans q2
        replace q3 := (hb.cell (p := ⟨g, o + k * 4 + 3, none⟩) hgl).trans q3
        replace r0 := (((below1 wr (.cells #[.int .i64 xk, .int .i64 xa, .int .i64 xv, .slice xA xn xc] 36)).cell (p := ⟨g2, o2 + k * 4, none⟩) (by have := hb.size; simp; omega)).trans (hb.cell (p := ⟨g2, o2 + k * 4, none⟩) hgl2)).trans r0
        replace r1 := (((below1 wr (.cells #[.int .i64 xk, .int .i64 xa, .int .i64 xv, .slice xA xn xc] 36)).cell (p := ⟨g2, o2 + k * 4 + 1, none⟩) (by have := hb.size; simp; omega)).trans (hb.cell (p := ⟨g2, o2 + k * 4 + 1, none⟩) hgl2)).trans r1
        replace r2 := (((below1 wr (.cells #[.int .i64 xk, .int .i64 xa, .int .i64 xv, .slice xA xn xc] 36)).cell (p := ⟨g2, o2 + k * 4 + 2, none⟩) (by have := hb.size; simp; omega)).trans (hb.cell (p := ⟨g2, o2 + k * 4 + 2, none⟩) hgl2)).trans r2
        replace r3 := (((below1 wr (.cells #[.int .i64 xk, .int .i64 xa, .int .i64 xv, .slice xA xn xc] 36)).cell (p := ⟨g2, o2 + k * 4 + 3, none⟩) (by have := hb.size; simp; omega)).trans (hb.cell (p := ⟨g2, o2 + k * 4 + 3, none⟩) hgl2)).trans r3
        have HE := Lib.hid ((hE.keep hb)); have HF := Lib.hid (hF.keep hb); have HT := Lib.hid ht; have HU := Lib.hid hu
        have HC := Lib.hid (HI.out t (List.mem_of_getElem? ht))
        have hk0 : (0 : Int) ≤ (k : Int) := by omega
        have hk1 : (k : Int) < (n : Int) := by omega
        clear hE hF ht hu
        go_wp2_with fail
        refine (HC.out.call ok ok' u _ _ _ ((HE.out.alloc _).alloc _) ((HF.out.alloc _).alloc _)).mono ?_
        rintro e wc ⟨rfl, hbc⟩
        have hB := (hb.step (below2 wr _ _)).step hbc
        cases hs : sameT t u
        · have hres := sameL_no ks ks' k t u HT.out HU.out hs
          have HR := Lib.hid hres
          clear hres hs
          go_wp2_with fail
          go_ret
          exact ⟨ret_bool HR.out.symm, hB⟩
        · have HS := Lib.hid hs
          clear hs
          go_wp2_with fail
          go_roundw
          case measure => simp [intOf]; omega
          case rel =>
            refine ⟨k + 1, by omega, by go_num, hB, fun j t' u' hj h1 h2 => ?_⟩
            by_cases hjk : j < k
            · exact HAll.out j t' u' hjk h1 h2
            · obtain rfl : j = k := by omega
              rw [HT.out] at h1; rw [HU.out] at h2
              cases h1; cases h2
              exact HS.out
      · obtain rfl : k = n := by omega
        have hk1 : ¬ (k : Int) < (k : Int) := by omega
        go_wp2_with fail
        go_ret
        refine ⟨ret_bool (sameL_yes ks ks' fun i t u h1 h2 => HAll.out i t u ?_ h1 h2).symm, hb⟩
        rcases Nat.lt_or_ge i k with h | h
        · exact h
        · rw [List.getElem?_eq_none (by have := Hn.out; omega)] at h1; cases h1
  · have hb : (n == n') = false := by simpa using hnn
    have hbi : ((n : Int) != (n' : Int)) = true := by simp; omega
    rw [hb, Bool.false_and]
    go_enter Try.func36, Try.ntmps36
    go_wp2_with fail
    go_ret
    exact ⟨rfl, Below.refl _ _⟩
theorem lenEq (n n' : Nat) : ((n == n') && true) = (n == n') := by simp
set_option maxRecDepth 100000 in
set_option maxHeartbeats 2000000 in
theorem same_node (k a v : Int) (ks : List Tree) (hl : ks.length ≤ 9223372036854775807) (IH : ∀ t ∈ ks, SameC t) : SameC (.node k a v ks) := by
  intro ok ok' u x y w h1 h2
  cases u with
  | node k' a' v' ks' =>
    unfold ExprV at h1 h2
    obtain ⟨A, c, rfl, hK1⟩ := h1
    obtain ⟨A', c', rfl, hK2⟩ := h2
    obtain ⟨R, hR⟩ : ∃ R : Bool, R = ((ks.length == ks'.length) && sameL ks ks') := ⟨_, rfl⟩
    have HK1 : ∀ o o', Hid (KidsV ok ((w.alloc o).alloc o') ks A 0) := fun o o' => Lib.hid (KidsV.of_cells (fun p _ _ hc => ((below2 w o o').cell (World.block_lt_of_cell? _ _ hc)).trans hc) ks A 0 hK1)
    have HK2 : ∀ o o', Hid (KidsV ok' ((w.alloc o).alloc o') ks' A' 0) := fun o o' => Lib.hid (KidsV.of_cells (fun p _ _ hc => ((below2 w o o').cell (World.block_lt_of_cell? _ _ hc)).trans hc) ks' A' 0 hK2)
    have HI := Lib.hid IH; have HR := Lib.hid hR
    have hsame : sameT (.node k a v ks) (.node k' a' v' ks') = ((k == k') && ((v == v') && R)) := by rw [hR]; simp only [sameT]
    have HS := Lib.hid hsame
    clear hK1 hK2 IH hR hsame
    cases hk : (k == k') <;> cases hv : (v == v')
    all_goals
      go_enter Try.func17, Try.ntmps17
      go_wp2_with (go_at_call 36; (refine (equal_any ok ok' ks ks' HI.out A A' c c' _ (HK1 _ _).out (HK2 _ _).out hl).mono ?_); rintro e wc ⟨rfl, hbc⟩; rw [← HR.out])
      go_ret
      refine ⟨ret_bool ?_, ?_⟩
      · rw [HS.out]; simp [*]
      · first
        | exact (below2 w _ _).step hbc
        | exact below2 w _ _
mutual
/-- No list of parts is longer than Go's. -/
def wideT : Tree → Bool | .node _ _ _ ks => decide (ks.length ≤ 9223372036854775807) && wideL ks
def wideL : List Tree → Bool | [] => true | t :: ts => wideT t && wideL ts
end
mutual
theorem same_tree : ∀ t : Tree, wideT t = true → SameC t
  | .node k a v ks, h => by
    unfold wideT at h
    rw [Bool.and_eq_true] at h
    exact same_node k a v ks (by simpa using h.1) (same_trees ks h.2)
theorem same_trees : ∀ l : List Tree, wideL l = true → ∀ t ∈ l, SameC t
  | [], _, t, ht => absurd ht (by simp)
  | u :: us, h, t, ht => by
    unfold wideL at h
    rw [Bool.and_eq_true] at h
    rcases List.mem_cons.1 ht with e | ht
    · rw [e]; exact same_tree u h.1
    · exact same_trees us h.2 t ht
end
mutual
theorem wide_of_small : ∀ t : Tree, smallT t = true → wideT t = true
  | .node k a v ks, h => by
    unfold smallT at h
    rw [Bool.and_eq_true] at h
    unfold wideT
    rw [Bool.and_eq_true]
    have h1 := h.1
    simp only [decide_eq_true_eq] at h1 ⊢
    exact ⟨by omega, wideL_of_small ks h.2⟩
theorem wideL_of_small : ∀ l : List Tree, smallL l = true → wideL l = true
  | [], _ => by unfold wideL; rfl
  | t :: ts, h => by
    unfold smallL at h
    rw [Bool.and_eq_true] at h
    unfold wideL
    rw [Bool.and_eq_true]
    exact ⟨wide_of_small t h.1, wideL_of_small ts h.2⟩
end
end Go.Proofs.Ytmjpecjciibngaa
