/- The table of a formula: plain part, and the choice of the function. -/
import Derived.Test.YtmjpecjciibngaaIs2
import Derived.Test.YtmjpecjciibngaaTruth6
namespace Go.Proofs.Ytmjpecjciibngaa
open Go.RowKit
set_option linter.unusedVariables false

mutual
/-- Each formula within is plain. -/
def allP : Tree → Bool | .node k _ v ks => plainB k v ks.length && allPL ks
def allPL : List Tree → Bool | [] => true | t :: ts => allP t && allPL ts
end
theorem allPL_mem : ∀ (l : List Tree), (∀ t ∈ l, allP t = true) → allPL l = true
  | [], _ => by unfold allPL; rfl
  | t :: ts, h => by
    unfold allPL
    rw [h t (by simp), allPL_mem ts fun u hu => h u (by simp [hu])]; rfl
theorem allPL_get : ∀ (l : List Tree) (i : Nat) (t : Tree), allPL l = true → l[i]? = some t → allP t = true
  | [], i, t, _, h => by simp at h
  | u :: us, 0, t, h, e => by
    unfold allPL at h
    simp only [Bool.and_eq_true] at h
    cases e
    exact h.1
  | u :: us, i + 1, t, h, e => by
    unfold allPL at h
    simp only [Bool.and_eq_true] at h
    exact allPL_get us i t h.2 e
theorem allP_of_isGo : ∀ (r : Nat) (l : List Tree), isGo r l = true → ∀ t ∈ l, allP t = true
  | 0, l, h, t, ht => by
    have : l = [] := by simpa [isGo] using h
    rw [this] at ht; simp at ht
  | r + 1, l, h, t, ht => by
    rcases nil_or_snoc l with rfl | ⟨l', u, rfl⟩
    · simp at ht
    · rw [isGo_snoc, Bool.and_eq_true] at h
      have ih := allP_of_isGo r _ h.2
      rcases List.mem_append.1 ht with ht | ht
      · exact ih t (by simp [ht])
      · obtain rfl : t = u := by simpa using ht
        cases t
        unfold allP
        rw [allPL_mem _ fun v hv => ih v (by simp [Tree.kids, hv])]
        simpa [plainT] using h.1
theorem allP_of_isT {t : Tree} (h : isT t = true) : allP t = true := allP_of_isGo 4000 [t] h t (by simp)

def binF (k : Int) (f g : Nat → Bool) : Nat → Bool :=
  if k = 4 then fun x => f x && g x else if k = 5 then fun x => f x || g x else if k = 6 then fun x => f x ^^ g x else if k = 7 then fun x => !f x || g x else fun x => !(f x ^^ g x)
abbrev noF : Nat → Bool := fun _ => false
def nth (l : List (Nat → Bool)) (j : Nat) : Nat → Bool := l.getD j noF
def nodeF (k v : Int) (l : List (Nat → Bool)) : Nat → Bool :=
  if k = 1 then fun x => x.testBit v.toNat else if k = 2 then fun _ => decide (v = 1) else if k = 3 then fun x => !nth l 0 x
  else if k = 9 then fun x => (nth l 0 x && nth l 1 x) || (!nth l 0 x && nth l 2 x)
  else if k = 10 then halvesTo and (2 ^ v.toNat) (nth l 0) 8 else if k = 11 then halvesTo or (2 ^ v.toNat) (nth l 0) 8 else binF k (nth l 0) (nth l 1)
mutual
/-- The function of a formula. -/
def tb : Tree → Nat → Bool | .node k _ v ks => nodeF k v (tbs ks)
def tbs : List Tree → List (Nat → Bool) | [] => [] | t :: ts => tb t :: tbs ts
end
theorem tbs_len : ∀ l : List Tree, (tbs l).length = l.length
  | [] => by unfold tbs; rfl
  | t :: ts => by unfold tbs; simp [tbs_len ts]
theorem nth_tbs : ∀ (l : List Tree) (i : Nat) (t : Tree), l[i]? = some t → nth (tbs l) i = tb t
  | [], i, t, h => by simp at h
  | u :: us, 0, t, h => by cases h; unfold tbs; rfl
  | u :: us, i + 1, t, h => by
    have := nth_tbs us i t h
    unfold tbs
    simpa [nth] using this
theorem nth_out (l : List (Nat → Bool)) (i : Nat) (h : l.length ≤ i) : nth l i = noF := by simp [nth, List.getD, h]

mutual
def htT : Tree → Nat | .node _ _ _ ks => htL ks + 1
def htL : List Tree → Nat | [] => 0 | t :: ts => max (htT t) (htL ts)
end
theorem htL_get : ∀ (l : List Tree) (i : Nat) (t : Tree), l[i]? = some t → htT t ≤ htL l
  | [], i, t, h => by simp at h
  | u :: us, 0, t, h => by cases h; unfold htL; omega
  | u :: us, i + 1, t, h => by
    have := htL_get us i t h
    unfold htL
    omega
theorem KidsV.at0 {ok : Nat → Prop} {w : World} {ts : List Tree} {A : Option Addr} {t : Tree} (h : KidsV ok w (t :: ts) A 0) : ∃ g o, A = some ⟨g, o, none⟩ := by
  unfold KidsV at h
  obtain ⟨⟨⟨g, o, sp⟩, c0, c1, c2, c3, e, hb, h0, _⟩, hr⟩ := h
  refine ⟨g, o, ?_⟩
  cases sp with
  | none => exact e
  | some q =>
    simp only [Nat.zero_mul, Addr.add, if_true, World.cell?, Option.isSome_some] at h0
    split at h0 <;> cases h0
theorem KidsV.get0 {ok : Nat → Prop} {w : World} {g o : Nat} : ∀ (ts : List Tree) (s i : Nat) (t : Tree), KidsV ok w ts (some ⟨g, o, none⟩) s → ts[i]? = some t →
    ∃ k a v A' n c, ok g ∧ w.cell? ⟨g, o + (s + i) * 4, none⟩ = some (.int .i64 k) ∧ w.cell? ⟨g, o + ((s + i) * 4 + 1), none⟩ = some (.int .i64 a) ∧ w.cell? ⟨g, o + ((s + i) * 4 + 2), none⟩ = some (.int .i64 v) ∧ w.cell? ⟨g, o + ((s + i) * 4 + 3), none⟩ = some (.slice A' n c) ∧ ExprV ok w t (.agg #[.int .i64 k, .int .i64 a, .int .i64 v, .slice A' n c])
  | [], s, i, t, _, h => by simp at h
  | u :: us, s, 0, t, h, e => by
    cases e
    unfold KidsV at h
    obtain ⟨⟨ad, c0, c1, c2, c3, e, hb, h0, h1, h2, h3, hE⟩, hr⟩ := h
    cases e
    obtain ⟨k, a, v, A', n, c, e4⟩ := hE.four
    injection e4 with e4
    simp only [Array.mk.injEq, List.cons.injEq, and_true] at e4
    obtain ⟨rfl, rfl, rfl, rfl⟩ := e4
    have hadd : ∀ n, (⟨g, o, none⟩ : Addr).add n = ⟨g, o + n, none⟩ := by intro n; unfold Addr.add; split <;> simp_all
    rw [hadd] at h0 h1 h2 h3
    exact ⟨k, a, v, A', n, c, hb, h0, h1, h2, h3, hE⟩
  | u :: us, s, i + 1, t, h, e => by
    unfold KidsV at h
    have := KidsV.get0 us (s + 1) i t h.2 e
    rwa [show s + 1 + i = s + (i + 1) by omega] at this
theorem KidsV.get {ok : Nat → Prop} {w : World} (ts : List Tree) (A : Option Addr) (i : Nat) (t : Tree) (h : KidsV ok w ts A 0) (e : ts[i]? = some t) :
    ∃ g o k a v A' n c, A = some ⟨g, o, none⟩ ∧ ok g ∧ w.cell? ⟨g, o + i * 4, none⟩ = some (.int .i64 k) ∧ w.cell? ⟨g, o + (i * 4 + 1), none⟩ = some (.int .i64 a) ∧ w.cell? ⟨g, o + (i * 4 + 2), none⟩ = some (.int .i64 v) ∧ w.cell? ⟨g, o + (i * 4 + 3), none⟩ = some (.slice A' n c) ∧ ExprV ok w t (.agg #[.int .i64 k, .int .i64 a, .int .i64 v, .slice A' n c]) := by
  cases ts with
  | nil => simp at e
  | cons u us =>
    obtain ⟨g, o, rfl⟩ := h.at0
    obtain ⟨k, a, v, A', n, c, h⟩ := KidsV.get0 _ 0 i t h e
    rw [Nat.zero_add] at h
    exact ⟨g, o, k, a, v, A', n, c, rfl, h⟩

set_option maxRecDepth 100000 in
set_option maxHeartbeats 2000000 in
theorem tables1_any (f g : Nat → Bool) (w : World) : Calls Try.prog 74 #[tabV f, tabV g] w fun e w' => e = .returned (tabV fun x => !f x || g x) ∧ Below w.heap.size w w' := by
  unfold tabV tabCells
  go_enter Try.func74, Try.ntmps74
  go_wp2_with fail
  obtain ⟨W, hW⟩ : ∃ W : World, W = ((w.alloc (.cells (tabCells f) 29)).alloc (.cells (tabCells g) 29)).alloc (.cells zeroTab 29) := ⟨_, rfl⟩
  have hB : Below w.heap.size w W := hW ▸ below3 w _ _ _
  have hsz : w.heap.size + 2 < W.heap.size := by rw [hW]; simp
  obtain ⟨⟨a0, a1, a2, a3⟩, _, _, _, _⟩ := Blk.four (show Blk W w.heap.size 29 (tabCells f) from hW ▸ (((Blk.new w _ _).alloc _).alloc _))
  obtain ⟨⟨b0, b1, b2, b3⟩, _, _, _, _⟩ := Blk.four (show Blk W (w.heap.size + 1) 29 (tabCells g) from hW ▸ ((Blk.new1 w _ _ _).alloc _))
  have HZ := Lib.hid (show Blk W (w.heap.size + 1 + 1) 29 zeroTab from hW ▸ (Blk.new2 w _ _ _ _))
  unfold tabCells zeroTab at hW
  rw [← hW]
  clear hW
  go_region_held3 (fun w' => ∀ p : Addr, p.block < w.heap.size + 2 → w'.cell? p = W.cell? p)
    (first
      | with_reducible exact fun p hp => hb1.of_drew.cell (by omega)
      | with_reducible exact fun p hp => hB2.cell (by omega)
      | (intro p hp; rw [cell_put4 (by omega)]; exact hB2.cell (by omega))
      | exact fun _ _ => rfl)
    (first
      | (go_at_call 47; (with_reducible refine (tnot_any f _).mono ?_); rintro e w1 ⟨rfl, hb1⟩)
      | (go_at_call 70; (with_reducible refine (tor_any (fun x => !f x) g _).mono ?_); rintro e w2 ⟨rfl, hb2⟩;
         have hB2 := hb1.of_drew.step hb2; have R4 := HZ.out.keep hB2; obtain ⟨⟨c0, c1, c2, c3⟩, f0, f1, f2, f3⟩ := R4.four; have HR := Lib.hid R4; clear R4; unfold tabV tabCells))
  go_wp2_with fail
  exact ret_tab rfl _ _ rfl rfl (HR.out.put4 _ _ _ _) ⟨rfl, (hB.step hB2).put4 (by omega) _ _ _ _⟩

set_option maxRecDepth 100000 in
set_option maxHeartbeats 2000000 in
theorem tables2_any (f g : Nat → Bool) (w : World) : Calls Try.prog 75 #[tabV f, tabV g] w fun e w' => e = .returned (tabV fun x => !(f x ^^ g x)) ∧ Below w.heap.size w w' := by
  unfold tabV tabCells
  go_enter Try.func75, Try.ntmps75
  go_wp2_with fail
  refine (txor_any f g _).mono ?_
  rintro e w1 ⟨rfl, hb1⟩
  have hZ := (Blk.new2 w (.cells (tabCells f) 29) (.cells (tabCells g) 29) 29 zeroTab).keep hb1
  have hB1 := (below3 w _ _ _).step hb1
  have hsz := hb1.le
  simp only [World.size_alloc] at hsz
  have HZ := Lib.hid hZ; have HB := Lib.hid hB1
  clear hZ hB1 hb1
  go_wp2_with fail
  refine (tnot_any (fun x => f x ^^ g x) _).mono ?_
  rintro e w2 ⟨rfl, hb2⟩
  have R4 := HZ.out.keep hb2
  obtain ⟨⟨c0, c1, c2, c3⟩, f0, f1, f2, f3⟩ := R4.four
  have HR := Lib.hid R4; clear R4
  unfold tabV tabCells
  go_wp2_with fail
  exact ret_tab rfl _ _ rfl rfl (HR.out.put4 _ _ _ _) ⟨rfl, (HB.out.step hb2).put4 (by omega) _ _ _ _⟩

def tabNo (k : Int) : Nat := if (k == 4) = true then 71 else if (k == 5) = true then 70 else if (k == 6) = true then 73 else if (k == 7) = true then 74 else 75
set_option maxHeartbeats 1000000 in
theorem tables_any (k : Int) (w : World) : Calls Try.prog 51 #[.int .i64 k] w fun e w' => e = .returned (.func (.func (tabNo k)) #[] #[]) ∧ w = w' := by
  go_enter Try.func51, Try.ntmps51
  go_wp2
  all_goals
    go_ret
    exact ⟨by simp only [tabNo, *]; rfl, rfl⟩
end Go.Proofs.Ytmjpecjciibngaa
