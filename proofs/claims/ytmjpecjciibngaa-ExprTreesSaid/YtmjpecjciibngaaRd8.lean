/- The reader in memory: ite. -/
import Derived.Test.YtmjpecjciibngaaBRda
import Derived.Maps.AppendAt
import Derived.Deep.AppendLies
namespace Go.Proofs.Ytmjpecjciibngaa
open Go.RowKit
set_option linter.unusedVariables false

/-- The cells xs are the formulas, one behind the other. -/
def KidsX (ok : Nat → Prop) (w : World) : List Tree → List Value → Prop
  | [], xs => xs = []
  | t :: ts, xs => ∃ k a v A n c rest, xs = .int .i64 k :: .int .i64 a :: .int .i64 v :: .slice A n c :: rest ∧ ExprV ok w t (.agg #[.int .i64 k, .int .i64 a, .int .i64 v, .slice A n c]) ∧ KidsX ok w ts rest
theorem KidsX.imp {ok ok' : Nat → Prop} {w w' : World} (h : ∀ t x, ExprV ok w t x → ExprV ok' w' t x) : ∀ (ts : List Tree) (xs : List Value), KidsX ok w ts xs → KidsX ok' w' ts xs
  | [], xs, hx => hx
  | t :: ts, xs, ⟨k, a, v, A, n, c, rest, e, hE, hr⟩ => ⟨k, a, v, A, n, c, rest, e, h t _ hE, KidsX.imp h ts rest hr⟩
theorem KidsX.snoc {ok : Nat → Prop} {w : World} {t : Tree} {k a v : Int} {A : Option Addr} {n c : Nat} (hE : ExprV ok w t (.agg #[.int .i64 k, .int .i64 a, .int .i64 v, .slice A n c])) :
    ∀ (ts : List Tree) (xs : List Value), KidsX ok w ts xs → KidsX ok w (ts ++ [t]) (xs ++ [.int .i64 k, .int .i64 a, .int .i64 v, .slice A n c])
  | [], xs, hx => by
    obtain rfl : xs = [] := hx
    exact ⟨k, a, v, A, n, c, [], rfl, hE, rfl⟩
  | u :: ts, xs, ⟨k', a', v', A', n', c', rest, e, hE', hr⟩ => by
    subst e
    exact ⟨k', a', v', A', n', c', _, rfl, hE', KidsX.snoc hE ts rest hr⟩
theorem KidsX.len {ok : Nat → Prop} {w : World} : ∀ (ts : List Tree) (xs : List Value), KidsX ok w ts xs → xs.length = ts.length * 4
  | [], xs, hx => by
    obtain rfl : xs = [] := hx
    rfl
  | t :: ts, xs, ⟨k, a, v, A, n, c, rest, e, hE, hr⟩ => by
    subst e
    simp only [List.length_cons, KidsX.len ts rest hr]
    omega
theorem KidsX.kids {ok ok' : Nat → Prop} {w : World} {g : Nat} (hg : ok' g) (hok : ∀ x, ok x → ok' x) : ∀ (ts : List Tree) (xs : List Value) (i : Nat), KidsX ok w ts xs → (∀ j u, xs[j]? = some u → w.cell? ((⟨g, 0, none⟩ : Addr).add (i * 4 + j)) = some u) → KidsV ok' w ts (some ⟨g, 0, none⟩) i
  | [], xs, i, hx, hc => by unfold KidsV; trivial
  | t :: ts, xs, i, ⟨k, a, v, A, n, c, rest, e, hE, hr⟩, hc => by
    subst e
    unfold KidsV
    refine ⟨⟨_, _, _, _, _, rfl, hg, hc 0 _ rfl, hc 1 _ rfl, hc 2 _ rfl, hc 3 _ rfl, ExprV.mono (fun x _ h => hok x h) _ _ hE⟩, KidsX.kids hg hok ts rest (i + 1) hr fun j u hj => ?_⟩
    have := hc (j + 4) u hj
    rwa [show i * 4 + (j + 4) = (i + 1) * 4 + j by omega] at this

/-- The reader behind k of the three parts of an ite. -/
def itK (iff_ : Rd) (p : PS) : Nat → List Tree × PS
  | 0 => ([], p)
  | k + 1 => iteStep iff_ (if k = 0 then [40] else [44]) (itK iff_ p k).1 (itK iff_ p k).2
theorem itK_calm {iff_ : Rd} {d : Nat} (h : Calm iff_ (d + 1)) (p : PS) (hp : p.depth = d) : ∀ k, (itK iff_ p k).2.depth = d ∧ (itK iff_ p k).2.toks.length ≤ p.toks.length
  | 0 => ⟨hp, Nat.le_refl _⟩
  | k + 1 => by
    have ih := itK_calm h p hp k
    have hm := must_calm (itK iff_ p k).2 (if k = 0 then [40] else [44])
    have hw := within_calm h ((itK iff_ p k).2.must (if k = 0 then [40] else [44])) (hm.1.trans ih.1)
    exact ⟨hw.1, by have := hw.2; simp only [itK, iteStep]; omega⟩
theorem iteP_eq (iff_ : Rd) (at_ : Int) (p : PS) : iteP iff_ at_ p = (.node 9 at_ 0 (itK iff_ p 3).1, (itK iff_ p 3).2.must [41]) := rfl
theorem itK_len (iff_ : Rd) (p : PS) : ∀ k, (itK iff_ p k).1.length = k
  | 0 => rfl
  | k + 1 => by simp [itK, iteStep, itK_len iff_ p k]

theorem own_grown {w w' : World} {base : Nat} {e : TypeId} {size : Nat} {v : Value} {n : Nat} {xs : List Value} {b : Nat} (h : w.ownsRow base e size v n xs) (hg : w.grownBy w' (some b)) (hb : b < base) : w'.ownsRow base e size v n xs := by
  refine h.kept hg ?_
  cases ho : v.ownBlock with
  | none => exact .inl rfl
  | some g =>
    refine .inr fun e => ?_
    have := (h.lt g ho).1
    injection e with e
    omega
theorem four_new (w : World) (t : TypeId) (c0 c1 c2 c3 : Value) : ∀ j u, [c0, c1, c2, c3][j]? = some u → (w.alloc (.cells #[c0, c1, c2, c3] t)).cell? ((⟨w.heap.size, 0, none⟩ : Addr).add j) = some u := by
  intro j u hj
  have hB := Blk.new w t #[c0, c1, c2, c3]
  match j, hj with
  | 0, hj => cases hj; exact hB.cell 0
  | 1, hj => cases hj; exact hB.cell 1
  | 2, hj => cases hj; exact hB.cell 2
  | 3, hj => cases hj; exact hB.cell 3
theorem own_ne {w : World} {base : Nat} {e : TypeId} {size : Nat} {v : Value} {n : Nat} {xs : List Value} {b : Nat} (h : w.ownsRow base e size v n xs) (hb : b < base) : some b ≠ v.ownBlock := by
  intro e
  have := (h.lt b e.symm).1
  omega
theorem exprInfo : (Try.prog.info? 36).map (fun i => (i.zero, i.size, i.bytes)) = some (some (.agg zeroExpr), 4, 48) := by kernel_rfl

abbrev iteArr : Value := .agg #[.string ⟨#[40]⟩, .string ⟨#[44]⟩, .string ⟨#[44]⟩]
set_option maxRecDepth 100000 in
set_option maxHeartbeats 4000000 in
theorem ite_any (iff_ : Rd) (at_ : Int) (s : Bs) (hs : s.length ≤ 4000) (d : Nat) (hd : d ≤ 30)
    (hif : d < 30 → Does 31 iff_ s (d + 1)) (hci : Calm iff_ (d + 1)) (w : World) (b : Nat) (p : PS) (hP : PM w b s p) (hpd : p.depth = d) :
    Calls Try.prog 91 #[.pointer (some ⟨b, 0, none⟩), .int .i64 at_] w fun e' w' =>
      ∃ x, e' = .returned x ∧ ExprV (fun g => w.heap.size ≤ g) w' (iteP iff_ at_ p).1 x ∧ w.grownBy w' (some b) ∧ PM w' b s (iteP iff_ at_ p).2 := by
  have hlt := hP.blk.lt
  obtain ⟨i0, hi0, hz0, hz1, hz2⟩ := info_parts exprInfo
  have hcalm := itK_calm hci p hpd
  have HP := Lib.hid hP; have HD := Lib.hid hpd; have HI := Lib.hid hif; have HC := Lib.hid hci; have HCalm := Lib.hid hcalm
  have hi0' := Lib.hid hi0; have hz0' := Lib.hid hz0; have hz1' := Lib.hid hz1; have hz2' := Lib.hid hz2
  have j0 : ∀ w : World, (Instr.index 49 iteArr (.int .i64 0)).run Try.prog w = .ok (.string ⟨#[40]⟩) w := fun _ => by kernel_rfl
  have j1 : ∀ w : World, (Instr.index 49 iteArr (.int .i64 1)).run Try.prog w = .ok (.string ⟨#[44]⟩) w := fun _ => by kernel_rfl
  have j2 : ∀ w : World, (Instr.index 49 iteArr (.int .i64 2)).run Try.prog w = .ok (.string ⟨#[44]⟩) w := fun _ => by kernel_rfl
  clear hP hpd hif hci hcalm hi0 hz0 hz1 hz2
  go_enter Try.func91, Try.ntmps91
  go_wp2_with fail
  go_loopw [5, 9] (fun sv i wr => ∃ (k : Nat) (xs : List Value), k ≤ 3 ∧ i = .int .i64 k ∧ wr.ownsRow (w.heap.size + 1) 36 4 sv k xs ∧ KidsX (fun x => w.heap.size < x ∧ some x ≠ sv.ownBlock) wr (itK iff_ p k).1 xs ∧
      PM wr b s (itK iff_ p k).2 ∧ w.grownBy wr (some b) ∧ w.heap.size + 1 ≤ wr.heap.size ∧ Blk wr w.heap.size 36 zeroExpr) (fun _ i _ => 3 - (intOf i).toNat)
  case atStart =>
    exact ⟨0, [], by omega, rfl, World.ownsRow_nil _ _ _ _, rfl, HP.out.keep (below1 _ _), grown_alloc (World.grownBy.refl _ _) _, by simp, Blk.new _ _ _⟩
  case round =>
    obtain ⟨k, xs, hk, rfl, hown, hX, hPk, hG, hsz, hZ⟩ := hrel
    obtain ⟨sv, rfl⟩ : ∃ v : Value, v = u5 := ⟨_, rfl⟩
    have HO := Lib.hid hown; have HX := Lib.hid hX; have HPk := Lib.hid hPk; have HZ := Lib.hid hZ
    clear hown hX hPk hZ
    by_cases h3 : k = 3
    · subst h3
      clear j0 j1 j2
      have hfin := iteP_eq iff_ at_ p
      have hl3 := itK_len iff_ p 3
      clear HCalm
      generalize itK iff_ p 3 = Q at *
      have HL := Lib.hid hl3; have HFin := Lib.hid hfin; clear hl3 hfin
      go_wp2_with fail
      refine (must_any b s Q.2 [41] _ hs HPk.out (by decide)).mono ?_
      rintro e w2 ⟨rfl, hgr, hP2⟩
      have hO2 := own_grown HO.out hgr (by omega)
      have hX2 := KidsX.imp (ok' := fun x => w.heap.size < x ∧ some x ≠ sv.ownBlock) (w' := w2) (fun t x h => ExprV.grown h hgr (by intro g hg; simp at hg; omega)) _ _ HX.out
      have hZ2 := HZ.out.grown hgr (by simp; omega)
      have hG2 := grown_trans hG hgr
      have hsz2 := hgr.size
      obtain ⟨g, cap, hv, hgb, hgl⟩ := World.ownsRow.form hO2 (by omega)
      subst hv
      have hE2 : ExprV (fun x => w.heap.size ≤ x ∧ x ≠ w.heap.size) w2 (.node 9 at_ 0 Q.1) (.agg #[.int .i64 9, .int .i64 at_, .int .i64 0, .slice (some ⟨g, 0, none⟩) 3 cap]) := by
        unfold ExprV
        refine ⟨_, cap, by rw [HL.out], KidsX.kids (by constructor <;> omega) (by intro x h; constructor <;> omega) _ _ 0 hX2 fun j u hj => ?_⟩
        have := World.ownsRow.cells hO2 (g := g) rfl j u hj
        simpa using this
      obtain ⟨⟨z0, z1, z2, z3⟩, zf0, zf1, zf2, zf3⟩ := hZ2.four
      have HE2 := Lib.hid hE2; have HZ2 := Lib.hid hZ2; have HP2 := Lib.hid hP2
      clear hO2 hX2 hE2 hZ2 hgr hP2
      go_wp2_with fail
      rw [HFin.out]
      exact lay_ret rfl rfl rfl HZ2.out (by omega) (Nat.le_refl _) HE2.out hG2 HP2.out
    · obtain ⟨t, ht, hgd, hidx⟩ : ∃ t : Bs, t = (if k = 0 then [40] else [44]) ∧ good t ∧ ∀ w : World, (Instr.index 49 iteArr (.int .i64 (k : Int))).run Try.prog w = .ok (.string (str t)) w := by
        have h3' : k = 0 ∨ k = 1 ∨ k = 2 := by omega
        rcases h3' with rfl | rfl | rfl
        · exact ⟨_, rfl, by decide, j0⟩
        · exact ⟨_, rfl, by decide, j1⟩
        · exact ⟨_, rfl, by decide, j2⟩
      have hk3 : k < 3 := by omega
      have Ht := Lib.hid ht; have Hgd := Lib.hid hgd
      clear ht hgd j0 j1 j2 h3
      go_wp2_with fail
      refine (must_any b s (itK iff_ p k).2 t _ hs HPk.out Hgd.out).mono ?_
      rintro e w2 ⟨rfl, hgr, hP2⟩
      have HP2 := Lib.hid hP2; clear hP2
      have hO2 := own_grown HO.out hgr (by omega)
      have hX2 := KidsX.imp (ok' := fun x => w.heap.size < x ∧ some x ≠ sv.ownBlock) (w' := w2) (fun t x h => ExprV.grown h hgr (by intro g hg; simp at hg; omega)) _ _ HX.out
      have hZ2 := HZ.out.grown hgr (by simp; omega)
      have hG2 := grown_trans hG hgr
      have hsz2 := hgr.size
      have HO2 := Lib.hid hO2; have HX2 := Lib.hid hX2; have HZ2 := Lib.hid hZ2
      clear hO2 hX2 hZ2 hgr
      go_wp2_with fail
      refine (within_any 31 iff_ s hs d hd enters_iff HI.out (fun p hp => (HC.out p hp).1) _ b ((itK iff_ p k).2.must t) HP2.out ((must_calm _ _).1.trans (HCalm.out k).1)).mono ?_
      rintro e w3 ⟨x, rfl, hE, hgr3, hP3⟩
      obtain ⟨rk, ra, rv, rA, rn, rc, rfl⟩ := hE.four
      have hO3 := (own_grown HO2.out hgr3 (by omega)).alloc (.cells #[.int .i64 rk, .int .i64 ra, .int .i64 rv, .slice rA rn rc] 36)
      have hX3 := KidsX.imp (ok' := fun x => w.heap.size < x ∧ some x ≠ sv.ownBlock ∧ x < w3.heap.size) (w' := w3.alloc (.cells #[.int .i64 rk, .int .i64 ra, .int .i64 rv, .slice rA rn rc] 36)) (fun t x h => ExprV.alloc (ExprV.mono (by intro g h1 h2; exact ⟨h2.1, h2.2, h1⟩) _ _ (ExprV.grown h hgr3 (by intro g hg; simp at hg; omega))) _) _ _ HX2.out
      have hZ3 := (HZ2.out.grown hgr3 (by simp; omega)).alloc (.cells #[.int .i64 rk, .int .i64 ra, .int .i64 rv, .slice rA rn rc] 36)
      have hG3 : w.grownBy (w3.alloc (.cells #[.int .i64 rk, .int .i64 ra, .int .i64 rv, .slice rA rn rc] 36)) (some b) := grown_alloc (grown_trans hG2 hgr3) _
      have hsz3 := hgr3.size
      have hlt2 : ∀ g, sv.ownBlock = some g → g < w2.heap.size := fun g hg => (HO2.out.lt g hg).2
      have hE3 : ExprV (fun x => w.heap.size < x ∧ some x ≠ sv.ownBlock ∧ x < w3.heap.size) (w3.alloc (.cells #[.int .i64 rk, .int .i64 ra, .int .i64 rv, .slice rA rn rc] 36)) (within iff_ ((itK iff_ p k).2.must t)).1 (.agg #[.int .i64 rk, .int .i64 ra, .int .i64 rv, .slice rA rn rc]) :=
        ExprV.alloc (ExprV.mono (by intro g h1 h2; exact ⟨by omega, fun e => by have := hlt2 g e.symm; omega, h1⟩) _ _ hE) _
      have HP3 := Lib.hid (hP3.keep (below1 w3 (.cells #[.int .i64 rk, .int .i64 ra, .int .i64 rv, .slice rA rn rc] 36))); have HE3 := Lib.hid hE3; have HO3 := Lib.hid hO3; have HX3 := Lib.hid hX3; have HZ3 := Lib.hid hZ3
      have Hlt2 := Lib.hid hlt2
      clear hP3 hE hE3 hO3 hX3 hZ3 hgr3 hlt2
      go_wp2_with (at_builtin; refine wpList_append_own_at _ rfl (.tmp 15) (.tmp 18) _ rfl (w.heap.size + 1) 36 i0 (.agg zeroExpr) 4 48 Try.underlying34 hi0'.out hz0'.out hz1'.out hz2'.out rfl (by omega) sv k xs rfl HO3.out ⟨w3.heap.size, 0, none⟩ 1 1 [.int .i64 rk, .int .i64 ra, .int .i64 rv, .slice rA rn rc] rfl rfl (four_new _ _ _ _ _ _) (by simp [Value.oneCell']) (by unfold maxLen; omega) (by omega) (by simp; omega) ?_; intro v' w4 hO4 hgr4 _ hat)
      have HO4 := Lib.hid hO4; have Hat := Lib.hid hat
      clear hO4 hat
      have hsz4 := hgr4.size
      simp only [World.size_alloc] at hsz4
      have hnb : some b ≠ sv.ownBlock := own_ne HO3.out (by omega)
      have hnz : some w.heap.size ≠ sv.ownBlock := own_ne HO3.out (by omega)
      have hG4 : w.grownBy w4 (some b) := ⟨hgr4.os.trans hG3.os, hgr4.tape.trans hG3.tape, hgr4.output.trans hG3.output, by omega, fun i hi hne => (hgr4.block i (by simp; omega) (own_ne HO3.out (by omega))).trans (hG3.block i hi hne)⟩
      go_roundw
      case rel =>
        refine ⟨k + 1, xs ++ [.int .i64 rk, .int .i64 ra, .int .i64 rv, .slice rA rn rc], by omega, by go_num, HO4.out, ?_, (by have := HP3.out.grown hgr4 hnb; rw [Ht.out] at this; exact this), hG4, by omega, HZ3.out.grown hgr4 hnz⟩
        refine KidsX.imp (ok := fun x => w.heap.size < x ∧ some x ≠ sv.ownBlock ∧ x < w3.heap.size) (fun t x h => ExprV.mono ?_ _ _ (ExprV.grown h hgr4 (by intro g hg hk; exact hk.2.1 hg.symm))) _ _ (by have := KidsX.snoc HE3.out _ _ HX3.out; rw [Ht.out] at this; exact this)
        intro g _ hg
        refine ⟨hg.1, fun e => ?_⟩
        rcases Hat.out with h | h
        · exact hg.2.1 (e.trans h)
        · rw [h] at e; injection e with e; simp at e; omega
      case measure => simp [intOf]; omega
end Go.Proofs.Ytmjpecjciibngaa
