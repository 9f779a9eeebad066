/- put of a variable; Print of a variable. -/
import Derived.Test.YtmjpecjciibngaaLeaf
namespace Go.Proofs.Ytmjpecjciibngaa
open Go.RowKit
set_option linter.unusedVariables false

theorem step_run {P : Program} {w : World} {ops : Array Oper} {o : Oper} {a : Act} {K : Act → World → Prop} {Q : Exit → Act → World → Prop} {E : Prop} (hgd : o.guard = none) (s x : Operand) (t u : TypeId)
    (ho : o.op = .call { callee := .builtin .append, args := #[s, x], argTypes := #[t, u] }) {R : Value → World → Prop} (v x' : Value) (hs : a.eval s = v) (hx : a.eval x = x')
    (hr : ∃ v' w', (Builtin.append_ #[t, u] o.type #[v, x']).run P w = .ok v' w' ∧ R v' w') (h : ∀ v' w', R v' w' → K (a.put o.dst v') w') :
    if Region.wanted o (yielded ops a.tmps) = true then Oper.wp P o a w K Q else E := by
  have hw : Region.wanted o (yielded ops a.tmps) = true := by simp [Region.wanted, hgd]
  rw [if_pos hw]
  obtain ⟨v', w', hr, hR⟩ := hr
  unfold Oper.wp execOp
  simp only [ho, resolve, invoke, builtin, Sem.run_bind, Sem.run_pure, Result.andThen_ok, List.map_toArray, List.map_cons, List.map_nil, hs, hx, hr]
  exact h v' w' hR
theorem run_append_bytes (w : World) (B : Nat) (ty : TypeId) (v : Value) (s : Bs) (h : OwnB w B v s) (hB : B ≤ w.heap.size) (x : UInt8) (b c : Nat) (T : TypeId) (cs : Array Value) (hb : Blk w b T cs) (hcs : cs = #[.int .u8 (x.toNat : Int)]) (hl : s.length + 1 ≤ 1000000000) :
    ∃ v' w', (Builtin.append_ #[22, 22] ty #[v, .slice (some ⟨b, 0, none⟩) 1 c]).run Try.prog w = .ok v' w' ∧ Puts B v w v' (s ++ [x]) w' := by
  obtain ⟨i0, hi0, hz0, hz1, hz2⟩ := info_parts byteInfo
  subst hcs
  obtain ⟨v', w', hr, h2, h3, _, h5⟩ := run_append_own_at (P := Try.prog) w B 22 ty 5 i0 (.int .u8 0) 1 1 Try.underlying22 hi0 hz0 hz1 hz2 rfl (by omega) v s.length _ h ⟨b, 0, none⟩ 1 c [.int .u8 (x.toNat : Int)] rfl (fun j u hj => by
    match j, hj with
    | 0, hj => cases hj; exact hb.cell 0) (by simp [Value.oneCell']) (by unfold maxLen; omega) (by omega) hB
  refine ⟨v', w', hr, ?_, h3, ?_⟩
  · unfold OwnB
    rw [strCells_app, List.length_append]
    exact h2
  · rcases h5 with h5 | h5
    · exact .inl h5
    · exact .inr ⟨_, h5, Nat.le_refl _⟩
theorem OwnB.kept {w w' : World} {B : Nat} {v : Value} {s : Bs} (h : OwnB w B v s) (hb : Below w.heap.size w w') : OwnB w' B v s :=
  World.ownsRow.kept h (grown_below hb none) (by cases v.ownBlock <;> simp)
theorem OwnB.ne {w : World} {B : Nat} {v : Value} {s : Bs} (h : OwnB w B v s) {g : Nat} (hg : w.heap.size ≤ g) : some g ≠ v.ownBlock := by
  intro e
  have := (World.ownsRow.lt h g e.symm).2
  omega
theorem below_drew (w : World) : Below w.heap.size w w.drew := ⟨rfl, rfl, rfl, Nat.le_refl _, fun _ _ => rfl⟩

theorem Puts.pre {B : Nat} {v v' : Value} {w W w' : World} {s : Bs} (hb : Below w.heap.size w W) (h : Puts B v W v' s w') : Puts B v w v' s w' :=
  ⟨h.1, grown_trans (grown_below hb _) h.2.1, h.2.2.elim .inl fun ⟨g, e, hg⟩ => .inr ⟨g, e, Nat.le_trans hb.size hg⟩⟩
theorem Puts.cell {B : Nat} {v v' : Value} {w w' : World} {s : Bs} (h : Puts B v w v' s w') {p : Addr} (hp : p.block < w.heap.size) (hne : some p.block ≠ v.ownBlock) : w'.cell? p = w.cell? p :=
  h.2.1.cell_far _ hp hne
theorem Puts.ne {B : Nat} {v v' : Value} {w w' : World} {s : Bs} (h : Puts B v w v' s w') {g : Nat} (hg : g < w.heap.size) (hne : some g ≠ v.ownBlock) : some g ≠ v'.ownBlock := by
  rcases h.2.2 with e | ⟨g', e, hg'⟩
  · rw [e]; exact hne
  · rw [e]; intro e'; injection e' with e'; omega
theorem Puts.size {B : Nat} {v v' : Value} {w w' : World} {s : Bs} (h : Puts B v w v' s w') : w.heap.size ≤ w'.heap.size := h.2.1.size
theorem Puts.trans {B : Nat} {v v1 v2 : Value} {w w1 w2 : World} {s1 s2 : Bs} (h : Puts B v w v1 s1 w1) (k : Puts B v1 w1 v2 s2 w2) : Puts B v w v2 s2 w2 := by
  refine ⟨k.1, ⟨k.2.1.os.trans h.2.1.os, k.2.1.tape.trans h.2.1.tape, k.2.1.output.trans h.2.1.output, Nat.le_trans h.2.1.size k.2.1.size, fun i hi hne => ?_⟩, h.2.2.trans k.2.2 h.2.1.size⟩
  refine (k.2.1.block i (Nat.lt_of_lt_of_le hi h.2.1.size) ?_).trans (h.2.1.block i hi hne)
  rcases h.2.2 with e | ⟨g, e, hg⟩
  · rw [e]; exact hne
  · rw [e]; intro e'; injection e' with e'; omega

set_option maxRecDepth 100000 in
set_option maxHeartbeats 2000000 in
theorem put_var (B : Nat) (v : Value) (s : Bs) (a : Int) (u : Nat) (A : Option Addr) (n c : Nat) (w : World) (hO : OwnB w B v s) (hB : B ≤ w.heap.size) (hl : s.length ≤ 1000000) (hu : u < 8) :
    Calls Try.prog 35 #[v, .agg #[.int .i64 1, .int .i64 a, .int .i64 u, .slice A n c]] w fun e w' => ∃ v', e = .returned v' ∧ Puts B v w v' (s ++ [118, dg u]) w' := by
  go_enter Try.func35, Try.ntmps35
  go_wp2_with fail
  obtain ⟨W, hW⟩ : ∃ W : World, W = w.alloc (.cells #[.int .i64 1, .int .i64 a, .int .i64 u, .slice A n c] 36) := ⟨_, rfl⟩
  have hOW : OwnB W B v s := hW ▸ hO.kept (below1 w _)
  have hne : some w.heap.size ≠ v.ownBlock := hO.ne (Nat.le_refl _)
  have hBW : Below w.heap.size w W := hW ▸ below1 w _
  have h2 : W.cell? ⟨w.heap.size, 2, none⟩ = some (.int .i64 u) := hW ▸ (Blk.new w _ _).cell 2
  have hsz : w.heap.size + 1 = W.heap.size := by rw [hW]; simp
  have HOW := Lib.hid hOW; have HBW := Lib.hid hBW
  rw [← hW]
  clear hW hO hOW hBW
  go_region_held3 (fun w' => w'.cell? ⟨w.heap.size, 2, none⟩ = some (.int .i64 u))
    (first
      | go_keep
      | (rw [hP1.cell (p := ⟨w.heap.size, 2, none⟩) (by simp; omega) hne]; go_keep)
      | (rw [hb2.cell (p := ⟨w.heap.size, 2, none⟩) (by simp; omega), hP1.cell (p := ⟨w.heap.size, 2, none⟩) (by simp; omega) hne]; go_keep)
      | (rw [hP2.cell (p := ⟨w.heap.size, 2, none⟩) (by simp; omega) (hP1.ne (by simp; omega) hne), hb2.cell (p := ⟨w.heap.size, 2, none⟩) (by simp; omega), hP1.cell (p := ⟨w.heap.size, 2, none⟩) (by simp; omega) hne]; go_keep))
    (first
      | ((refine step_run (by rfl) _ _ _ _ (by rfl) _ _ (by rfl) (by rfl) (run_append_bytes _ B _ v s (HOW.out.kept ((below_drew W).alloc (Nat.le_refl _) _)) (by simp; omega) 118 _ _ _ _ (Blk.new W.drew _ _) rfl (by omega)) ?_; rintro v1 w1 hP1; have hs1 : W.heap.size + 1 ≤ w1.heap.size := by have := hP1.size; simpa using this))
      | (go_at_call 54; (with_reducible refine (digit_any u (by omega) _).mono ?_); rintro e w2 ⟨rfl, hb2⟩; have hs2 := hb2.size)
      | ((refine step_run (by rfl) _ _ _ _ (by rfl) _ _ (by rfl) (by rfl) (run_append_text _ B _ v1 (s ++ [118]) [dg u] (hP1.1.kept hb2) (by omega) (by simp; omega)) ?_; rintro v2 w3 hP2)))
  go_wp2_with fail
  go_ret
  exact ⟨v2, rfl, by have := ((hP1.pre ((below_drew W).alloc (Nat.le_refl _) _)).pre HBW.out).trans (hP2.pre hb2); rwa [List.append_assoc] at this⟩

/-- Owned bytes, as a string. -/
theorem OwnB.conv {w : World} {B : Nat} {v : Value} {s : Bs} (h : OwnB w B v s) (hs : s ≠ []) : (convert 22 9 v).run Try.prog w = .ok (.string (str s)) w := by
  have hn : 0 < s.length := List.length_pos_iff.2 hs
  obtain ⟨g, cap, rfl, _, _⟩ := World.ownsRow.form h hn
  refine run_convert_bytes_back w 22 9 5 ⟨g, 0, none⟩ cap s Try.underlying22 Try.underlying5 Try.underlying9 fun j hj => ?_
  exact World.ownsRow.cells h (g := g) rfl j _ (by simp [Lib.strCells, str, List.getElem?_eq_getElem hj])
set_option maxRecDepth 100000 in
set_option maxHeartbeats 2000000 in
theorem print_var (a : Int) (u : Nat) (c : Nat) (w : World) (hu : u < 8) :
    Calls Try.prog 16 #[.agg #[.int .i64 1, .int .i64 a, .int .i64 u, .slice none 0 c]] w fun e w' => e = .returned (.string (str [118, dg u])) ∧ Below w.heap.size w w' := by
  have hT : isT (.node 1 a u []) = true := by
    unfold isT
    rw [show (4000 : Nat) = 3999 + 1 from rfl, show [Tree.node 1 a u []] = [] ++ [Tree.node 1 a u []] from rfl, isGo_snoc]
    simp only [Tree.kids, List.append_nil, isGo_nil, Bool.and_true]
    unfold plainT plainB
    simp [kidsOf, topOf]
    omega
  have HT := Lib.hid hT; clear hT
  go_enter Try.func16, Try.ntmps16
  go_wp2_with fail
  refine (is_ok (ok := fun _ => True) (.node 1 a u []) _ _ (by simp [smallT, smallL]) (by unfold ExprV; exact ⟨none, c, rfl, by unfold KidsV; trivial⟩)).mono ?_
  rintro e w1 ⟨rfl, hb1⟩
  rw [HT.out]
  have hX := (Blk.new w 36 #[.int .i64 1, .int .i64 a, .int .i64 u, .slice none 0 c]).keep hb1
  obtain ⟨⟨x0, x1, x2, x3⟩, _⟩ := hX.four
  have hB1 := (below1 w _).step hb1
  go_wp2_with fail
  refine (put_var w1.heap.size (.slice none 0 0) [] a u none 0 c w1 (OwnB.nil _ _) (Nat.le_refl _) (by simp) hu).mono ?_
  rintro e w2 ⟨v', rfl, hP⟩
  have hk := hP.1.conv (by simp)
  have hB2 : Below w1.heap.size w1 w2 := ⟨hP.2.1.os, hP.2.1.tape, hP.2.1.output, hP.2.1.size, fun i hi => hP.2.1.block i hi (by simp [Value.ownBlock])⟩
  have HP := Lib.hid hP; clear hP
  go_wp2_with fail
  go_ret
  exact ⟨rfl, hB1.step hB2⟩
end Go.Proofs.Ytmjpecjciibngaa
