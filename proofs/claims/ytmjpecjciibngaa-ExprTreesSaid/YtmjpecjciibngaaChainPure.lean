/- Readers keep the depth and never give signs back. -/
import Derived.Test.YtmjpecjciibngaaRd3
namespace Go.Proofs.Ytmjpecjciibngaa
open Go.RowKit
set_option linter.unusedVariables false

/-- A reader at depth d: it keeps the depth, and what is left grows never. -/
def Calm (R : Rd) (d : Nat) : Prop := ∀ p : PS, p.depth = d → (R p).2.depth = d ∧ (R p).2.toks.length ≤ p.toks.length
theorem goes_len (p : PS) : p.goes.toks.length ≤ p.toks.length := by unfold PS.goes; simp
theorem bad_calm (p : PS) (e : Nat) : (p.bad e).depth = p.depth ∧ (p.bad e).toks = p.toks := by unfold PS.bad; split <;> exact ⟨rfl, rfl⟩
theorem may_calm (p : PS) (t : Bs) : (p.may t).2.depth = p.depth ∧ (p.may t).2.toks.length ≤ p.toks.length := by
  unfold PS.may; split
  · exact ⟨rfl, goes_len p⟩
  · exact ⟨rfl, Nat.le_refl _⟩
theorem may_yes {p : PS} {t : Bs} (h : (p.may t).1 = true) : (p.may t).2 = p.goes ∧ p.e = 0 ∧ p.hd.1 = t := by
  unfold PS.may at h ⊢; split at h
  · rename_i h1; rw [if_pos h1]; exact ⟨rfl, h1⟩
  · cases h
theorem may_no {p : PS} {t : Bs} (h : (p.may t).1 = false) : (p.may t).2 = p := by
  unfold PS.may at h ⊢; split at h
  · cases h
  · rename_i h1; rw [if_neg h1]
theorem must_calm (p : PS) (t : Bs) : (p.must t).depth = p.depth ∧ (p.must t).toks.length ≤ p.toks.length := by
  have h := may_calm p t
  unfold PS.must
  simp only
  split
  · exact h
  · have h2 := bad_calm (p.may t).2 230
    exact ⟨h2.1.trans h.1, by rw [h2.2]; exact h.2⟩
theorem within_calm {R : Rd} {d : Nat} (h : Calm R (d + 1)) : Calm (within R) d := by
  intro p hp
  unfold within
  simp only
  have h2 : (if 30 < p.depth + 1 then ({ p with depth := p.depth + 1 } : PS).bad 231 else { p with depth := p.depth + 1 }).depth = d + 1 ∧
      (if 30 < p.depth + 1 then ({ p with depth := p.depth + 1 } : PS).bad 231 else { p with depth := p.depth + 1 }).toks = p.toks := by
    split
    · have := bad_calm { p with depth := p.depth + 1 } 231
      exact ⟨by rw [this.1, ← hp], this.2⟩
    · exact ⟨by rw [← hp], rfl⟩
  generalize (if 30 < p.depth + 1 then ({ p with depth := p.depth + 1 } : PS).bad 231 else { p with depth := p.depth + 1 }) = q at *
  split
  · exact ⟨by simp only; rw [h2.1]; omega, by simp only; rw [h2.2]; exact Nat.le_refl _⟩
  · have h3 := h q h2.1
    exact ⟨by simp only; rw [h3.1]; omega, by simp only; rw [← h2.2]; exact h3.2⟩
theorem chainGo_calm {R : Rd} {d : Nat} (h : Calm R d) (t : Bs) (kind : Int) : ∀ (n : Nat) (e : Tree) (p : PS), p.depth = d → (chainGo t kind R n e p).2.depth = d ∧ (chainGo t kind R n e p).2.toks.length ≤ p.toks.length
  | 0, e, p, hp => ⟨hp, Nat.le_refl _⟩
  | n + 1, e, p, hp => by
    have hm := may_calm p t
    simp only [chainGo]
    split
    · have h3 := h (p.may t).2 (hm.1.trans hp)
      have h4 := chainGo_calm h t kind n (.node kind p.at_ 0 [e, (R (p.may t).2).1]) (R (p.may t).2).2 h3.1
      exact ⟨h4.1, by omega⟩
    · exact ⟨hm.1.trans hp, hm.2⟩
theorem chain_calm {R : Rd} {d : Nat} (h : Calm R d) (t : Bs) (kind : Int) : Calm (chain t kind R) d := by
  intro p hp
  have h1 := h p hp
  have h2 := chainGo_calm h t kind (R p).2.toks.length (R p).1 (R p).2 h1.1
  exact ⟨h2.1, Nat.le_trans h2.2 h1.2⟩
theorem PM.pos {w : World} {b : Nat} {s : Bs} {p : PS} (h : PM w b s p) : 1 ≤ p.toks.length := by
  obtain ⟨pos, hp, e⟩ := h.lex
  obtain ⟨a, _, _, _, hne, _⟩ := lex_facts hp
  rw [e]
  cases h : lexFrom s pos with
  | nil => exact absurd h hne
  | cons _ _ => simp
theorem goes_len1 (p : PS) : p.goes.toks.length = p.toks.length - 1 := by unfold PS.goes; simp
end Go.Proofs.Ytmjpecjciibngaa
