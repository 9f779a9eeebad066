/- The print of a formula: bytes; steps of printing. The print of a formula: each kind. The print of a formula: quantifiers, ite, the signs between. -/
import Derived.Test.YtmjpecjciibngaaPut1
namespace Go.Proofs.Ytmjpecjciibngaa
open Go.RowKit
set_option linter.unusedVariables false

/-- A step of a plain region that is an append, from its run. -/
theorem wpList_from_run {P : Program} {w : World} {ops : Array Oper} {rest : List Oper} {o : Oper} {a : Act} {Q : Exit → Act → World → Prop} (hgd : o.guard = none) (s x : Operand) (t u : TypeId)
    (ho : o.op = .call { callee := .builtin .append, args := #[s, x], argTypes := #[t, u] }) {R : Value → World → Prop} (v x' : Value) (hs : a.eval s = v) (hx : a.eval x = x')
    (hr : ∃ v' w', (Builtin.append_ #[t, u] o.type #[v, x']).run P w = .ok v' w' ∧ R v' w') (h : ∀ v' w', R v' w' → wpList P ops Q rest (a.put o.dst v') w') : wpList P ops Q (o :: rest) a w := by
  refine wpList_plain hgd fun K hK => ?_
  obtain ⟨v', w', hr, hR⟩ := hr
  unfold Oper.wp execOp
  simp only [ho, resolve, invoke, builtin, Sem.run_bind, Sem.run_pure, Result.andThen_ok, List.map_toArray, List.map_cons, List.map_nil, hs, hx, hr]
  exact hK _ _ (h v' w' hR)

theorem str_cat (a b : Bs) : str a ++ str b = str (a ++ b) := by
  apply ByteArray.ext
  simp [str]
def inB (l : Bs) : Bs := 40 :: (l ++ [41])
def sgL (k : Int) : Bs := if k = 4 then [38] else if k = 5 then [124] else if k = 6 then [94] else if k = 7 then [45, 62] else [60, 45, 62]
def nthB (l : List Bs) (i : Nat) : Bs := l.getD i []
/-- A formula's print, of its parts' prints. -/
def nodeB (k : Int) (v : Nat) (l : List Bs) : Bs :=
  if k = 1 then [118, dg v] else if k = 2 then [dg v] else if k = 3 then 33 :: inB (nthB l 0)
  else if k = 10 then [97, 108, 108, 32, 118, dg v, 32] ++ inB (nthB l 0)
  else if k = 11 then [97, 110, 121, 32, 118, dg v, 32] ++ inB (nthB l 0)
  else if k = 9 then [105, 116, 101, 40] ++ (inB (nthB l 0) ++ ([44, 32] ++ (inB (nthB l 1) ++ ([44, 32] ++ (inB (nthB l 2) ++ [41])))))
  else [40] ++ (inB (nthB l 0) ++ ((32 :: (sgL k ++ [32])) ++ (inB (nthB l 1) ++ [41])))
mutual
def printT : Tree → Bs | .node k _ v ks => nodeB k v.toNat (printL ks)
def printL : List Tree → List Bs | [] => [] | t :: ts => printT t :: printL ts
end
theorem nthB_print : ∀ (l : List Tree) (i : Nat) (t : Tree), l[i]? = some t → nthB (printL l) i = printT t
  | [], i, t, h => by simp at h
  | u :: us, 0, t, h => by cases h; unfold printL; rfl
  | u :: us, i + 1, t, h => by
    have := nthB_print us i t h
    unfold printL
    simpa [nthB] using this

section
variable {B b0 : Nat} {W w w' w1 w2 : World} {v v1 v' : Value} {s s1 : Bs}
theorem Puts.own (h : Puts B v w v' s w') : OwnB w' B v' s := h.1
theorem Puts.refl (hO : OwnB w B v s) : Puts B v w v s w := ⟨hO, ⟨rfl, rfl, rfl, Nat.le_refl _, fun _ _ _ => rfl⟩, Lies.refl _ _⟩
/-- A step of printing, behind what leaves the old blocks. -/
theorem Puts.next (Q : Puts B v w v1 s1 w1) (hb : Below w1.heap.size w1 w2) {w3 : World} {s2 : Bs} (hP : Puts B v1 w2 v' s2 w3) : Puts B v w v' s2 w3 := Q.trans (hP.pre hb)
theorem Puts.bytes (Q : Puts B v w v1 s1 w1) (hw : B ≤ w.heap.size) (hb : Below w1.heap.size w1 w2) (x : UInt8) (b c : Nat) (T : TypeId) (cs : Array Value) (hB : Blk w2 b T cs) (hcs : cs = #[.int .u8 (x.toNat : Int)]) (ty : TypeId) (hl : s1.length + 1 ≤ 1000000000) :
    ∃ v' w', (Builtin.append_ #[22, 22] ty #[v1, .slice (some ⟨b, 0, none⟩) 1 c]).run Try.prog w2 = .ok v' w' ∧ (Puts B v w v' (s1 ++ [x]) w' ∧ Puts B v1 w2 v' (s1 ++ [x]) w') := by
  have h1 := Q.size
  have h2 := hb.size
  obtain ⟨v', w', hr, hP⟩ := run_append_bytes w2 B ty v1 s1 (Q.1.kept hb) (by omega) x b c T cs hB hcs hl
  exact ⟨v', w', hr, Q.next hb hP, hP⟩
theorem Puts.text (Q : Puts B v w v1 s1 w1) (hw : B ≤ w.heap.size) (hb : Below w1.heap.size w1 w2) (t : Bs) (ty : TypeId) (hl : s1.length + t.length ≤ 1000000000) :
    ∃ v' w', (Builtin.append_ #[22, 9] ty #[v1, .string (str t)]).run Try.prog w2 = .ok v' w' ∧ (Puts B v w v' (s1 ++ t) w' ∧ Puts B v1 w2 v' (s1 ++ t) w') := by
  have h1 := Q.size
  have h2 := hb.size
  obtain ⟨v', w', hr, hP⟩ := run_append_text w2 B ty v1 s1 t (Q.1.kept hb) (by omega) hl
  exact ⟨v', w', hr, Q.next hb hP, hP⟩
/-- What stays while a formula is printed: all below B, and the block b0. -/
abbrev Stays (B b0 : Nat) (W w1 : World) : Prop := b0 < w1.heap.size ∧ ∀ p : Addr, (p.block < B ∨ p.block = b0) → w1.cell? p = W.cell? p
theorem stays_below (h : Stays B b0 W w1) (hB : B ≤ b0) (hb : Below w1.heap.size w1 w2) : Stays B b0 W w2 := by
  refine ⟨Nat.lt_of_lt_of_le h.1 hb.size, fun p hp => (hb.cell (p := p) ?_).trans (h.2 p hp)⟩
  have := h.1
  omega
theorem stays_puts {s2 : Bs} (h : Stays B b0 W w1) (hB : B ≤ b0) {w4 : World} (hO : OwnB w4 B v1 s1) (hne : some b0 ≠ v1.ownBlock) (hP : Puts B v1 w1 v' s2 w2) : Stays B b0 W w2 := by
  refine ⟨Nat.lt_of_lt_of_le h.1 hP.size, fun p hp => (hP.cell (p := p) ?_ ?_).trans (h.2 p hp)⟩
  · have := h.1; omega
  · rcases hp with hp | hp
    · intro e
      have := (World.ownsRow.lt hO _ e.symm).1
      omega
    · rw [hp]; exact hne
theorem stays_expr {t : Tree} {x : Value} (h : Stays B b0 W w1) (hE : ExprV (fun g => g < B) W t x) : ExprV (fun g => g < B) w1 t x :=
  ExprV.of_cells (fun p _ hp hc => (h.2 p (.inl hp)).trans hc) t x hE
theorem Puts.keepBlk {g : Nat} {T : TypeId} {cs : Array Value} (hP : Puts B v1 w1 v' s1 w2) (hb : Blk w1 g T cs) (hne : some g ≠ v1.ownBlock) : Blk w2 g T cs := hb.grown hP.2.1 hne
end
/-- What put must do for a formula; what the function within it must do. -/
def PutC (t : Tree) : Prop := ∀ (B : Nat) (v : Value) (s : Bs) (x : Value) (w : World), OwnB w B v s → B ≤ w.heap.size → s.length + (printT t).length ≤ 1000000 → ExprV (fun g => g < B) w t x →
  Calls Try.prog 35 #[v, x] w fun e w' => ∃ v', e = .returned v' ∧ Puts B v w v' (s ++ printT t) w'
def InC (t : Tree) : Prop := ∀ (B : Nat) (v : Value) (s : Bs) (x : Value) (w : World), OwnB w B v s → B ≤ w.heap.size → s.length + (inB (printT t)).length ≤ 1000000 → ExprV (fun g => g < B) w t x →
  Calls Try.prog 53 #[v, x] w fun e w' => ∃ v', e = .returned v' ∧ Puts B v w v' (s ++ inB (printT t)) w'

theorem PutC.call {t : Tree} (h : PutC t) (B : Nat) (v : Value) (s : Bs) (x : Value) (w : World) (hO : OwnB w B v s) (hB : B ≤ w.heap.size) (hl : s.length + (printT t).length ≤ 1000000) (hE : ExprV (fun g => g < B) w t x) :
    Calls Try.prog 35 #[v, x] w fun e w' => ∃ v', e = .returned v' ∧ Puts B v w v' (s ++ printT t) w' := h B v s x w hO hB hl hE
theorem InC.call {t : Tree} (h : InC t) (B : Nat) (v : Value) (s : Bs) (x : Value) (w : World) (hO : OwnB w B v s) (hB : B ≤ w.heap.size) (hl : s.length + (inB (printT t)).length ≤ 1000000) (hE : ExprV (fun g => g < B) w t x) :
    Calls Try.prog 53 #[v, x] w fun e w' => ∃ v', e = .returned v' ∧ Puts B v w v' (s ++ inB (printT t)) w' := h B v s x w hO hB hl hE

set_option maxRecDepth 100000 in
set_option maxHeartbeats 2000000 in
theorem in_any (t : Tree) (h : PutC t) : InC t := by
  intro B v s x w hO hB hl hE
  obtain ⟨xk, xa, xv, xA, xn, xc, rfl⟩ := hE.four
  have hl' : s.length + (printT t).length + 2 ≤ 1000000 := by simp [inB] at hl; omega
  clear hl
  have HO := Lib.hid hO; have HE := Lib.hid (hE.alloc (.cells #[.int .i64 xk, .int .i64 xa, .int .i64 xv, .slice xA xn xc] 36)); have HH := Lib.hid h
  clear hO hE h
  go_enter Try.func53, Try.ntmps53
  go_wp2_with fail
  obtain ⟨W, hW⟩ : ∃ W : World, W = w.alloc (.cells #[.int .i64 xk, .int .i64 xa, .int .i64 xv, .slice xA xn xc] 36) := ⟨_, rfl⟩
  have hBW : Below w.heap.size w W := hW ▸ below1 w _
  have Q0 : Puts B v w v s W := ⟨HO.out.kept hBW, grown_below hBW _, Lies.refl _ _⟩
  have hsz : w.heap.size + 1 = W.heap.size := by rw [hW]; simp
  obtain ⟨⟨x0, x1, x2, x3⟩, _⟩ := (show Blk W w.heap.size 36 #[.int .i64 xk, .int .i64 xa, .int .i64 xv, .slice xA xn xc] from hW ▸ Blk.new w _ _).four
  have hne : some w.heap.size ≠ v.ownBlock := HO.out.ne (Nat.le_refl _)
  rw [← hW] at HE
  rw [← hW]
  have HBW := Lib.hid hBW; have HQ0 := Lib.hid Q0
  clear hW hBW Q0
  go_region_held3 (fun w' => w.heap.size < w'.heap.size ∧ ∀ p : Addr, (p.block < B ∨ p.block = w.heap.size) → w'.cell? p = W.cell? p)
    (first
      | exact ⟨by simp; omega, fun p _ => rfl⟩
      | exact stays_below (by assumption) hB (below1 _ _)
      | exact stays_puts (by assumption) hB HO.out hne hP1
      | exact stays_puts (by assumption) hB Q1.own hn1 hP2
      | exact stays_puts (by assumption) hB Q2.own hn2 hP3)
    (first
      | (refine step_run (by rfl) _ _ _ _ (by rfl) _ _ (by rfl) (by rfl) (HQ0.out.bytes hB (by first | exact (below_drew W).alloc (Nat.le_refl _) _ | exact ((below_drew W).alloc (Nat.le_refl _) _).alloc (by simp) _) 40 _ _ _ _ (by first | exact Blk.new _ _ _ | exact Blk.new1 _ _ _ _ | exact (Blk.new _ _ _).alloc _) rfl _ (by omega)) ?_; rintro v1 w1 ⟨Q1, hP1⟩; have hn1 := hP1.ne (g := w.heap.size) (by simp; omega) hne)
      | (go_at_call 35; (with_reducible refine (HH.out.call B v1 (s ++ [40]) _ _ (by first | exact Q1.own | exact Q1.own.kept (below1 _ _)) (by have := Q1.size; simp; omega) (by simp; omega) (stays_expr (by assumption) HE.out)).mono ?_); rintro e w2 ⟨v2, rfl, hP2⟩;
         have Q2 : Puts B v w v2 (s ++ [40] ++ printT t) w2 := (by first | exact Q1.next (Below.refl _ _) hP2 | exact Q1.next (below1 _ _) hP2);
         have hn2 := hP2.ne (g := w.heap.size) (by have := Q1.size; simp; omega) hn1)
      | (refine step_run (by rfl) _ _ _ _ (by rfl) _ _ (by rfl) (by rfl) (Q2.bytes (by omega) (by first | exact Below.refl _ _ | exact below1 _ _) 41 _ _ _ _ (by first | exact Blk.new _ _ _ | exact hP2.keepBlk (Blk.new _ _ _) (Q1.own.ne (Nat.le_refl _)) | exact hP2.keepBlk (hP1.keepBlk (Blk.new1 _ _ _ _) (HQ0.out.own.ne (by omega))) (hP1.ne (by simp) (HQ0.out.own.ne (by omega))) | exact hP2.keepBlk (hP1.keepBlk ((Blk.new _ _ _).alloc _) (HQ0.out.own.ne (by simp))) (hP1.ne (by simp; omega) (HQ0.out.own.ne (by simp)))) rfl _ (by simp; omega)) ?_; rintro v3 w3 ⟨Q3, hP3⟩))
  all_goals
    have HQ := Lib.hid Q3
    clear Q1 Q2 Q3 hP1 hP2 hP3
    go_wp2_with fail
    go_ret
    exact ⟨v3, rfl, by have := HQ.out; unfold inB; simpa [List.append_assoc] using this⟩
end Go.Proofs.Ytmjpecjciibngaa
namespace Go.Proofs.Ytmjpecjciibngaa
open Go.RowKit
set_option linter.unusedVariables false

set_option maxHeartbeats 1000000 in
theorem sign_any (k : Int) (w : World) : Calls Try.prog 55 #[.int .i64 k] w fun e w' => e = .returned (.string (str (sgL k))) ∧ w = w' := by
  go_enter Try.func55, Try.ntmps55
  go_wp2
  all_goals
    go_ret
    refine ⟨?_, rfl⟩
    simp only [beq_iff_eq, beq_eq_false_iff_ne, ne_eq] at *
    simp only [sgL, *, if_true, if_false]
    rfl

set_option maxRecDepth 100000 in
set_option maxHeartbeats 2000000 in
theorem put_const (B : Nat) (v : Value) (s : Bs) (a : Int) (u : Nat) (A : Option Addr) (n c : Nat) (w : World) (hO : OwnB w B v s) (hB : B ≤ w.heap.size) (hl : s.length ≤ 1000000) (hu : u < 8) :
    Calls Try.prog 35 #[v, .agg #[.int .i64 2, .int .i64 a, .int .i64 u, .slice A n c]] w fun e w' => ∃ v', e = .returned v' ∧ Puts B v w v' (s ++ [dg u]) w' := by
  have HO := Lib.hid hO; clear hO
  go_enter Try.func35, Try.ntmps35
  go_wp2_with fail
  refine (digit_any u (by omega) _).mono ?_
  rintro e w1 ⟨rfl, hb1⟩
  have hb := (below1 w (.cells #[.int .i64 2, .int .i64 a, .int .i64 u, .slice A n c] 36)).step hb1
  have hsz := hb.size
  clear hb1
  go_wp2_with (at_builtin; (refine wpList_from_run rfl (.tmp 19) (.tmp 22) _ _ rfl v (.string (str [dg u])) rfl rfl (run_append_text _ B _ v s [dg u] (HO.out.kept hb) (by omega) (by simp; omega)) ?_; rintro v2 w2 hP))
  go_ret
  exact ⟨v2, rfl, hP.pre hb⟩

/-- A part of a formula: where its cells lie, behind the making of a block. -/
theorem kid_cells {B : Nat} {w W : World} {ks : List Tree} {A : Option Addr} (hK : KidsV (fun g => g < B) w ks A 0) (hB : B ≤ w.heap.size) (hb : Below w.heap.size w W) (i : Nat) (t : Tree) (e : ks[i]? = some t) :
    ∃ g o k a v A' n c, A = some ⟨g, o, none⟩ ∧ g < B ∧ (W.cell? ⟨g, o + i * 4, none⟩ = some (.int .i64 k) ∧ W.cell? ⟨g, o + i * 4 + 1, none⟩ = some (.int .i64 a) ∧ W.cell? ⟨g, o + i * 4 + 2, none⟩ = some (.int .i64 v) ∧ W.cell? ⟨g, o + i * 4 + 3, none⟩ = some (.slice A' n c)) ∧ ExprV (fun g => g < B) W t (.agg #[.int .i64 k, .int .i64 a, .int .i64 v, .slice A' n c]) := by
  obtain ⟨g, o, k, a, v, A', n, c, h1, h2, h3, h4, h5, h6, hE⟩ := KidsV.get ks A i t hK e
  have hg : g < w.heap.size := Nat.lt_of_lt_of_le h2 hB
  have cell : ∀ (p : Nat) (u : Value), w.cell? ⟨g, p, none⟩ = some u → W.cell? ⟨g, p, none⟩ = some u := fun p u hc => (hb.cell (p := ⟨g, p, none⟩) hg).trans hc
  exact ⟨g, o, k, a, v, A', n, c, h1, h2, ⟨cell _ _ h3, cell _ _ h4, cell _ _ h5, cell _ _ h6⟩, hE.keep hb⟩

set_option maxRecDepth 100000 in
set_option maxHeartbeats 2000000 in
theorem put_not (a v0 : Int) (t1 : Tree) (h1 : InC t1) : PutC (.node 3 a v0 [t1]) := by
  intro B v s x w hO hB hl hE
  unfold ExprV at hE
  obtain ⟨A, cap, rfl, hK⟩ := hE
  have hl' : s.length + (printT t1).length + 3 ≤ 1000000 := by simp [printT, printL, nodeB, inB, nthB] at hl; omega
  clear hl
  obtain ⟨W, hW⟩ : ∃ W : World, W = w.alloc (.cells #[.int .i64 3, .int .i64 a, .int .i64 v0, .slice A 1 cap] 36) := ⟨_, rfl⟩
  have hBW : Below w.heap.size w W := hW ▸ below1 w _
  obtain ⟨g, o, k1, a1, v1', A1, n1, c1, rfl, hgB, ⟨c0, c1', c2, c3⟩, hE1⟩ := kid_cells hK hB hBW 0 t1 rfl
  have Q0 : Puts B v w v s W := ⟨hO.kept hBW, grown_below hBW _, Lies.refl _ _⟩
  have hsz : w.heap.size + 1 = W.heap.size := by rw [hW]; simp
  obtain ⟨⟨x0, x1, x2, x3⟩, _⟩ := (show Blk W w.heap.size 36 #[.int .i64 3, .int .i64 a, .int .i64 v0, .slice (some ⟨g, o, none⟩) 1 cap] from hW ▸ Blk.new w _ _).four
  have hne : some w.heap.size ≠ v.ownBlock := hO.ne (Nat.le_refl _)
  simp only [Nat.zero_mul, Nat.add_zero] at c0 c1' c2 c3
  have HO := Lib.hid hO; have HE := Lib.hid hE1; have HH := Lib.hid h1; have HQ0 := Lib.hid Q0; have HW := Lib.hid hW
  clear hO hE1 h1 Q0 hBW hK hW
  go_enter Try.func35, Try.ntmps35
  go_wp2_with fail
  rw [← HW.out]
  go_region_held3 (fun w' => w.heap.size < w'.heap.size ∧ ∀ p : Addr, (p.block < B ∨ p.block = w.heap.size) → w'.cell? p = W.cell? p)
    (first
      | exact ⟨by simp; omega, fun p _ => rfl⟩
      | exact stays_below (by assumption) hB (below1 _ _)
      | exact stays_puts (by assumption) hB HO.out hne hP1
      | exact stays_puts (by assumption) hB Q1.own hn1 hP2)
    (first
      | (refine step_run (by rfl) _ _ _ _ (by rfl) _ _ (by rfl) (by rfl) (HQ0.out.bytes hB ((below_drew W).alloc (Nat.le_refl _) _) 33 _ _ _ _ (Blk.new _ _ _) rfl _ (by omega)) ?_; rintro v1 w1 ⟨Q1, hP1⟩; have hn1 := hP1.ne (g := w.heap.size) (by simp; omega) hne)
      | (go_at_call 53; (with_reducible refine (HH.out.call B v1 (s ++ [33]) _ _ Q1.own (by have := Q1.size; omega) (by simp [inB]; omega) (stays_expr (by assumption) HE.out)).mono ?_); rintro e w2 ⟨v2, rfl, hP2⟩;
         have Q2 : Puts B v w v2 (s ++ [33] ++ inB (printT t1)) w2 := Q1.next (Below.refl _ _) hP2))
  have HQ := Lib.hid Q2
  clear Q1 Q2 hP1 hP2
  go_wp2_with fail
  go_ret
  exact ⟨v2, rfl, by have := HQ.out; simpa [printT, printL, nodeB, nthB, List.append_assoc] using this⟩
end Go.Proofs.Ytmjpecjciibngaa
namespace Go.Proofs.Ytmjpecjciibngaa
open Go.RowKit
set_option linter.unusedVariables false

set_option maxRecDepth 100000 in
set_option maxHeartbeats 2000000 in
theorem put_all (a : Int) (u : Nat) (hu : u < 8) (t1 : Tree) (h1 : InC t1) : PutC (.node 10 a (u : Int) [t1]) := by
  intro B v s x w hO hB hl hE
  unfold ExprV at hE
  obtain ⟨A, cap, rfl, hK⟩ := hE
  have hl' : s.length + (printT t1).length + 9 ≤ 1000000 := by simp [printT, printL, nodeB, inB, nthB] at hl; omega
  clear hl
  obtain ⟨W, hW⟩ : ∃ W : World, W = w.alloc (.cells #[.int .i64 10, .int .i64 a, .int .i64 (u : Int), .slice A 1 cap] 36) := ⟨_, rfl⟩
  have hBW : Below w.heap.size w W := hW ▸ below1 w _
  obtain ⟨g, o, k1, a1, v1', A1, n1, c1, rfl, hgB, ⟨c0, c1', c2, c3⟩, hE1⟩ := kid_cells hK hB hBW 0 t1 rfl
  have Q0 : Puts B v w v s W := ⟨hO.kept hBW, grown_below hBW _, Lies.refl _ _⟩
  have hsz : w.heap.size + 1 = W.heap.size := by rw [hW]; simp
  obtain ⟨⟨x0, x1, x2, x3⟩, _⟩ := (show Blk W w.heap.size 36 #[.int .i64 10, .int .i64 a, .int .i64 (u : Int), .slice (some ⟨g, o, none⟩) 1 cap] from hW ▸ Blk.new w _ _).four
  have hne : some w.heap.size ≠ v.ownBlock := hO.ne (Nat.le_refl _)
  simp only [Nat.zero_mul, Nat.add_zero] at c0 c1' c2 c3
  have HO := Lib.hid hO; have HE := Lib.hid hE1; have HH := Lib.hid h1; have HQ0 := Lib.hid Q0; have HW := Lib.hid hW
  have hs1 : (str [dg u]).size ≤ 10 := by rw [size_str]; simp
  have hcat1 : (⟨#[97, 108, 108, 32, 118]⟩ : ByteArray) ++ str [dg u] = str [97, 108, 108, 32, 118, dg u] := by
    rw [show (⟨#[97, 108, 108, 32, 118]⟩ : ByteArray) = str [97, 108, 108, 32, 118] from rfl, str_cat]; rfl
  have hs2 : (str [97, 108, 108, 32, 118, dg u]).size ≤ 10 := by rw [size_str]; simp
  have hcat2 : str [97, 108, 108, 32, 118, dg u] ++ ⟨#[32]⟩ = str [97, 108, 108, 32, 118, dg u, 32] := by
    rw [show (⟨#[32]⟩ : ByteArray) = str [32] from rfl, str_cat]; rfl
  have m1 : ¬ 9223372036854775807 < 5 + (str [dg u]).size := by omega
  have m2 : ¬ 9223372036854775807 < (str [97, 108, 108, 32, 118, dg u]).size + 1 := by omega
  clear hO hE1 h1 Q0 hBW hK hW
  go_enter Try.func35, Try.ntmps35
  go_wp2_with fail
  rw [← HW.out]
  go_region_held3 (fun w' => w.heap.size < w'.heap.size ∧ ∀ p : Addr, (p.block < B ∨ p.block = w.heap.size) → w'.cell? p = W.cell? p)
    (first
      | exact ⟨by simp; omega, fun p _ => rfl⟩
      | exact stays_below (by assumption) hB hb1
      | exact stays_puts (by assumption) hB HO.out hne hP1
      | exact stays_puts (by assumption) hB Q1.own hn1 hP2
      | assumption)
    (first
      | (go_at_call 54; (with_reducible refine (digit_any u (by omega) _).mono ?_); rintro e wd ⟨rfl, hb1⟩; have hsd := hb1.size)
      | (refine step_run (by rfl) _ _ _ _ (by rfl) _ _ (by rfl) (by rfl) (HQ0.out.text hB ((below_drew W).step hb1) [97, 108, 108, 32, 118, dg u, 32] _ (by simp; omega)) ?_; rintro v1 w1 ⟨Q1, hP1⟩; have hn1 := hP1.ne (g := w.heap.size) (by simp at hsd; omega) hne)
      | (go_at_call 53; (with_reducible refine (HH.out.call B v1 (s ++ [97, 108, 108, 32, 118, dg u, 32]) _ _ Q1.own (by have := Q1.size; omega) (by simp [inB]; omega) (stays_expr (by assumption) HE.out)).mono ?_); rintro e w2 ⟨v2, rfl, hP2⟩;
         have Q2 : Puts B v w v2 (s ++ [97, 108, 108, 32, 118, dg u, 32] ++ inB (printT t1)) w2 := Q1.next (Below.refl _ _) hP2))
  have HQ := Lib.hid Q2
  clear Q1 Q2 hP1 hP2
  go_wp2_with fail
  go_ret
  exact ⟨v2, rfl, by have := HQ.out; simpa [printT, printL, nodeB, nthB, List.append_assoc] using this⟩

set_option maxRecDepth 100000 in
set_option maxHeartbeats 2000000 in
theorem put_some (a : Int) (u : Nat) (hu : u < 8) (t1 : Tree) (h1 : InC t1) : PutC (.node 11 a (u : Int) [t1]) := by
  intro B v s x w hO hB hl hE
  unfold ExprV at hE
  obtain ⟨A, cap, rfl, hK⟩ := hE
  have hl' : s.length + (printT t1).length + 9 ≤ 1000000 := by simp [printT, printL, nodeB, inB, nthB] at hl; omega
  clear hl
  obtain ⟨W, hW⟩ : ∃ W : World, W = w.alloc (.cells #[.int .i64 11, .int .i64 a, .int .i64 (u : Int), .slice A 1 cap] 36) := ⟨_, rfl⟩
  have hBW : Below w.heap.size w W := hW ▸ below1 w _
  obtain ⟨g, o, k1, a1, v1', A1, n1, c1, rfl, hgB, ⟨c0, c1', c2, c3⟩, hE1⟩ := kid_cells hK hB hBW 0 t1 rfl
  have Q0 : Puts B v w v s W := ⟨hO.kept hBW, grown_below hBW _, Lies.refl _ _⟩
  have hsz : w.heap.size + 1 = W.heap.size := by rw [hW]; simp
  obtain ⟨⟨x0, x1, x2, x3⟩, _⟩ := (show Blk W w.heap.size 36 #[.int .i64 11, .int .i64 a, .int .i64 (u : Int), .slice (some ⟨g, o, none⟩) 1 cap] from hW ▸ Blk.new w _ _).four
  have hne : some w.heap.size ≠ v.ownBlock := hO.ne (Nat.le_refl _)
  simp only [Nat.zero_mul, Nat.add_zero] at c0 c1' c2 c3
  have HO := Lib.hid hO; have HE := Lib.hid hE1; have HH := Lib.hid h1; have HQ0 := Lib.hid Q0; have HW := Lib.hid hW
  have hs1 : (str [dg u]).size ≤ 10 := by rw [size_str]; simp
  have hcat1 : (⟨#[97, 110, 121, 32, 118]⟩ : ByteArray) ++ str [dg u] = str [97, 110, 121, 32, 118, dg u] := by
    rw [show (⟨#[97, 110, 121, 32, 118]⟩ : ByteArray) = str [97, 110, 121, 32, 118] from rfl, str_cat]; rfl
  have hs2 : (str [97, 110, 121, 32, 118, dg u]).size ≤ 10 := by rw [size_str]; simp
  have hcat2 : str [97, 110, 121, 32, 118, dg u] ++ ⟨#[32]⟩ = str [97, 110, 121, 32, 118, dg u, 32] := by
    rw [show (⟨#[32]⟩ : ByteArray) = str [32] from rfl, str_cat]; rfl
  have m1 : ¬ 9223372036854775807 < 5 + (str [dg u]).size := by omega
  have m2 : ¬ 9223372036854775807 < (str [97, 110, 121, 32, 118, dg u]).size + 1 := by omega
  clear hO hE1 h1 Q0 hBW hK hW
  go_enter Try.func35, Try.ntmps35
  go_wp2_with fail
  rw [← HW.out]
  go_region_held3 (fun w' => w.heap.size < w'.heap.size ∧ ∀ p : Addr, (p.block < B ∨ p.block = w.heap.size) → w'.cell? p = W.cell? p)
    (first
      | exact ⟨by simp; omega, fun p _ => rfl⟩
      | exact stays_below (by assumption) hB hb1
      | exact stays_puts (by assumption) hB HO.out hne hP1
      | exact stays_puts (by assumption) hB Q1.own hn1 hP2
      | assumption)
    (first
      | (go_at_call 54; (with_reducible refine (digit_any u (by omega) _).mono ?_); rintro e wd ⟨rfl, hb1⟩; have hsd := hb1.size)
      | (refine step_run (by rfl) _ _ _ _ (by rfl) _ _ (by rfl) (by rfl) (HQ0.out.text hB ((below_drew W).step hb1) [97, 110, 121, 32, 118, dg u, 32] _ (by simp; omega)) ?_; rintro v1 w1 ⟨Q1, hP1⟩; have hn1 := hP1.ne (g := w.heap.size) (by simp at hsd; omega) hne)
      | (go_at_call 53; (with_reducible refine (HH.out.call B v1 (s ++ [97, 110, 121, 32, 118, dg u, 32]) _ _ Q1.own (by have := Q1.size; omega) (by simp [inB]; omega) (stays_expr (by assumption) HE.out)).mono ?_); rintro e w2 ⟨v2, rfl, hP2⟩;
         have Q2 : Puts B v w v2 (s ++ [97, 110, 121, 32, 118, dg u, 32] ++ inB (printT t1)) w2 := Q1.next (Below.refl _ _) hP2))
  have HQ := Lib.hid Q2
  clear Q1 Q2 hP1 hP2
  go_wp2_with fail
  go_ret
  exact ⟨v2, rfl, by have := HQ.out; simpa [printT, printL, nodeB, nthB, List.append_assoc] using this⟩

end Go.Proofs.Ytmjpecjciibngaa
