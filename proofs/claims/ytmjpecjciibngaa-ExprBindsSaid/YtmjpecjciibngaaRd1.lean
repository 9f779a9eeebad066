/- The reader in memory: bad, may, must. -/
import Derived.Test.YtmjpecjciibngaaLex3
namespace Go.Proofs.Ytmjpecjciibngaa
open Go.RowKit
set_option linter.unusedVariables false

theorem find_prefix {L : List Bs} {l t : Bs} (h : L.find? (fun k => k.isPrefixOf l) = some t) : t <+: l := by
  have := List.find?_some h
  exact List.isPrefixOf_iff_prefix.1 this
theorem scan_prefix {l : Bs} (h : scanL l ≠ [63]) : scanL l <+: l := by
  unfold scanL at h ⊢
  split at h
  · rename_i k hk; exact find_prefix hk
  · rename_i hk
    cases l with
    | nil => exact List.nil_prefix
    | cons c r =>
      simp only at h ⊢
      split
      · exact ⟨r, rfl⟩
      · split
        · rename_i h1 h2; rw [if_neg h1, if_pos h2] at h; exact absurd rfl h
        · split
          · exact List.cons_prefix_cons.2 ⟨rfl, List.takeWhile_prefix _⟩
          · rename_i h1 h2 h3; rw [if_neg h1, if_neg h2, if_neg h3] at h; exact absurd rfl h

theorem lexL_fuel : ∀ (n m : Nat) (l : Bs) (a : Nat), l.length < n → l.length < m → lexL n l a = lexL m l a := by
  intro n
  induction n with
  | zero => intro m l a h; omega
  | succ n ih =>
    intro m l a hn hm
    cases m with
    | zero => omega
    | succ m =>
      simp only [lexL]
      split
      · rfl
      · rename_i hg
        congr 1
        simp only [Bool.or_eq_true, beq_iff_eq, not_or] at hg
        have hp := (scan_prefix hg.2).length_le
        have h1 : 1 ≤ (scanL (l.drop (l.takeWhile isBlank).length)).length := by
          cases e : scanL (l.drop (l.takeWhile isBlank).length) with
          | nil => exact absurd e hg.1
          | cons _ _ => simp
        have hb := (List.takeWhile_prefix isBlank (l := l)).length_le
        rw [List.length_drop] at hp
        exact ih m _ _ (by simp only [List.length_drop]; omega) (by simp only [List.length_drop]; omega)

def good (t : Bs) : Prop := t ≠ [] ∧ t ≠ [63]
theorem lex_facts {s : Bs} {pos : Nat} (hp : pos ≤ s.length) :
    ∃ a, a = pos + blanks (s.drop pos) ∧ a ≤ s.length ∧ (lexFrom s pos).headD ([], 0) = (scanL (s.drop a), a) ∧ lexFrom s pos ≠ [] ∧
      (good (scanL (s.drop a)) → 1 ≤ (scanL (s.drop a)).length ∧ a + (scanL (s.drop a)).length ≤ s.length ∧ (lexFrom s pos).tail = lexFrom s (a + (scanL (s.drop a)).length)) := by
  have hb := (List.takeWhile_prefix isBlank (l := s.drop pos)).length_le
  rw [List.length_drop] at hb
  have hd : (s.drop pos).drop (blanks (s.drop pos)) = s.drop (pos + blanks (s.drop pos)) := by rw [List.drop_drop]
  refine ⟨_, rfl, by unfold blanks; omega, ?_⟩
  unfold blanks at *
  have key : lexFrom s pos = if (scanL (s.drop (pos + ((s.drop pos).takeWhile isBlank).length)) == [] || scanL (s.drop (pos + ((s.drop pos).takeWhile isBlank).length)) == [63]) = true then [(scanL (s.drop (pos + ((s.drop pos).takeWhile isBlank).length)), pos + ((s.drop pos).takeWhile isBlank).length)]
      else (scanL (s.drop (pos + ((s.drop pos).takeWhile isBlank).length)), pos + ((s.drop pos).takeWhile isBlank).length) ::
        lexL s.length ((s.drop (pos + ((s.drop pos).takeWhile isBlank).length)).drop (scanL (s.drop (pos + ((s.drop pos).takeWhile isBlank).length))).length) (pos + ((s.drop pos).takeWhile isBlank).length + (scanL (s.drop (pos + ((s.drop pos).takeWhile isBlank).length))).length) := by
    unfold lexFrom
    simp only [lexL]
    rw [hd]
  rw [key]
  by_cases hg : (scanL (s.drop (pos + ((s.drop pos).takeWhile isBlank).length)) == [] || scanL (s.drop (pos + ((s.drop pos).takeWhile isBlank).length)) == [63]) = true
  · rw [if_pos hg]
    refine ⟨rfl, by simp, fun h => ?_⟩
    simp only [Bool.or_eq_true, beq_iff_eq] at hg
    rcases hg with h1 | h1
    · exact absurd h1 h.1
    · exact absurd h1 h.2
  · rw [if_neg hg]
    refine ⟨rfl, by simp, fun h => ?_⟩
    have hl := (scan_prefix h.2).length_le
    rw [List.length_drop] at hl
    have h1 : 1 ≤ (scanL (s.drop (pos + ((s.drop pos).takeWhile isBlank).length))).length := by
      cases e : scanL (s.drop (pos + ((s.drop pos).takeWhile isBlank).length)) with
      | nil => exact absurd e h.1
      | cons _ _ => simp
    refine ⟨h1, by omega, ?_⟩
    rw [List.tail_cons, List.drop_drop]
    have hlen := List.length_drop (i := pos + ((s.drop pos).takeWhile isBlank).length + (scanL (s.drop (pos + ((s.drop pos).takeWhile isBlank).length))).length) (l := s)
    refine lexL_fuel _ _ _ _ ?_ ?_
    · rw [hlen]; omega
    · rw [hlen]; omega

/-- The reader p over the text s lies in block b. -/
structure PM (w : World) (b : Nat) (s : Bs) (p : PS) : Prop where
  blk : Blk w b 62 (pcells s p.hd.1 p.at_ p.depth p.e p.eat)
  lex : ∃ pos, pos ≤ s.length ∧ p.toks = lexFrom s pos
theorem PM.at_le {w : World} {b : Nat} {s : Bs} {p : PS} (h : PM w b s p) : p.at_ ≤ s.length := by
  obtain ⟨pos, hp, e⟩ := h.lex
  obtain ⟨a, _, ha, hh, _⟩ := lex_facts hp
  unfold PS.at_ PS.hd
  rw [e, hh]; exact ha
theorem PM.keep {w w' : World} {b : Nat} {s : Bs} {p : PS} (h : PM w b s p) (hb : Below w.heap.size w w') : PM w' b s p := ⟨h.blk.keep hb, h.lex⟩
theorem PM.drew {w : World} {b : Nat} {s : Bs} {p : PS} (h : PM w b s p) : PM w.drew b s p := ⟨h.blk.drew, h.lex⟩
theorem PM.grown {w w' : World} {b : Nat} {s : Bs} {p : PS} {row : Option Nat} (h : PM w b s p) (hb : w.grownBy w' row) (hr : some b ≠ row) : PM w' b s p := ⟨h.blk.grown hb hr, h.lex⟩

theorem goes_any (b : Nat) (s : Bs) (p : PS) (w : World) (hs : s.length ≤ 4000) (hP : PM w b s p) (hg : good p.hd.1) :
    Calls Try.prog 30 #[.pointer (some ⟨b, 0, none⟩)] w fun e' w' => e' = .returned (.tuple #[]) ∧ w.grownBy w' (some b) ∧ PM w' b s p.goes := by
  obtain ⟨hB, pos, hpos, e⟩ := hP
  obtain ⟨a, ha, hle, hh, hne, hgd⟩ := lex_facts hpos
  have h1 : p.hd = (scanL (s.drop a), a) := by unfold PS.hd; rw [e]; exact hh
  have hat : p.at_ = a := by unfold PS.at_; rw [h1]
  have ht : p.hd.1 = scanL (s.drop a) := by rw [h1]
  rw [ht] at hg hB
  rw [hat] at hB
  obtain ⟨g1, g2, g3⟩ := hgd hg
  refine (goes_raw b s _ a p.depth p.e p.eat w hs g2 hB).mono ?_
  rintro e' w' ⟨rfl, hgr, hB'⟩
  refine ⟨rfl, hgr, ?_, a + (scanL (s.drop a)).length, g2, ?_⟩
  · obtain ⟨a', ha', _, hh', _⟩ := lex_facts g2
    have h2 : p.goes.hd = (scanL (s.drop a'), a') := by unfold PS.hd PS.goes; simp only; rw [e, g3]; exact hh'
    unfold PS.at_
    rw [h2]
    rw [← ha'] at hB'
    exact hB'
  · unfold PS.goes; simp only; rw [e, g3]

set_option maxRecDepth 100000 in
theorem bad_any (b : Nat) (s : Bs) (p : PS) (e1 : Nat) (w : World) (hP : PM w b s p) :
    Calls Try.prog 32 #[.pointer (some ⟨b, 0, none⟩), .int .i64 (e1 : Int)] w fun e' w' => e' = .returned (.tuple #[]) ∧ w.grownBy w' (some b) ∧ PM w' b s (p.bad e1) := by
  obtain ⟨⟨c0, c1, c2, c3, c4, c5⟩, f0, f1, f2, f3, f4, f5⟩ := six hP.blk
  by_cases he : p.e = 0
  · have HP := Lib.hid hP; clear hP
    rw [he] at c4
    have hb : p.bad e1 = { p with e := e1, eat := p.at_ } := by unfold PS.bad; rw [if_pos he]
    have Hb := Lib.hid hb; clear hb he
    go_enter Try.func32, Try.ntmps32
    go_wp2_with fail
    go_end0
    refine ⟨rfl, grown_at (grown_at (World.grownBy.refl _ _) _ _) _ _, ?_⟩
    rw [Hb.out]
    exact ⟨(HP.out.blk.set 4 _).set 5 _, HP.out.lex⟩
  · have HP := Lib.hid hP; clear hP
    have hb : p.bad e1 = p := by unfold PS.bad; rw [if_neg he]
    have Hb := Lib.hid hb; clear hb
    have h0 : ((p.e : Int) == 0) = false := by simp; omega
    go_enter Try.func32, Try.ntmps32
    go_wp2_with fail
    go_end0
    refine ⟨rfl, World.grownBy.refl _ _, ?_⟩
    rw [Hb.out]
    exact HP.out
end Go.Proofs.Ytmjpecjciibngaa
