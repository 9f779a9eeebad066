/- Formulas that are a row of operators between variables: the lexer and the readers on them. Plain facts. -/
import Derived.Test.YtmjpecjciibngaaFlat
import Derived.Test.YtmjpecjciibngaaLeaf
namespace Go.Proofs.Ytmjpecjciibngaa
open Go.RowKit
set_option linter.unusedVariables false

def sgn : Nat → Bs | 0 => [38] | 1 => [94] | 2 => [124] | 3 => [45, 62] | _ => [60, 45, 62]
def kd : Nat → Int | 0 => 4 | 1 => 6 | 2 => 5 | 3 => 7 | _ => 8
abbrev vtok (d : Nat) : Bs := [118, dg d]
/-- The text behind the first variable. -/
def tailB : List (Nat × Nat) → Bs
  | [] => []
  | (o, d) :: r => 32 :: (sgn o ++ (32 :: (vtok d ++ tailB r)))
def toksOf : List (Nat × Nat) → Nat → List Tok
  | [], at_ => [([], at_)]
  | (o, d) :: r, at_ => (sgn o, at_ + 1) :: (vtok d, at_ + 1 + (sgn o).length + 1) :: toksOf r (at_ + 1 + (sgn o).length + 1 + 2)
theorem tail_head : ∀ r : List (Nat × Nat), tailB r = [] ∨ ∃ t, tailB r = 32 :: t
  | [] => .inl rfl
  | (o, d) :: r => .inr ⟨_, rfl⟩
theorem lex_var (d : Nat) (hd : d < 8) (t : Bs) (ht : t = [] ∨ ∃ u, t = 32 :: u) (n at_ : Nat) : lexL (n + 1) (vtok d ++ t) at_ = (vtok d, at_) :: lexL n t (at_ + 2) := by
  have h8 : d = 0 ∨ d = 1 ∨ d = 2 ∨ d = 3 ∨ d = 4 ∨ d = 5 ∨ d = 6 ∨ d = 7 := by omega
  rcases h8 with rfl | rfl | rfl | rfl | rfl | rfl | rfl | rfl <;> rcases ht with rfl | ⟨u, rfl⟩ <;> rfl
theorem lex_sgn (o : Nat) (ho : o < 5) (d : Nat) (hd : d < 8) (t : Bs) (ht : t = [] ∨ ∃ u, t = 32 :: u) (n at_ : Nat) :
    lexL (n + 2) (32 :: (sgn o ++ (32 :: (vtok d ++ t)))) at_ = (sgn o, at_ + 1) :: (vtok d, at_ + 1 + (sgn o).length + 1) :: lexL n t (at_ + 1 + (sgn o).length + 1 + 2) := by
  have h1 : lexL (n + 2) (32 :: (sgn o ++ (32 :: (vtok d ++ t)))) at_ = (sgn o, at_ + 1) :: lexL (n + 1) (32 :: (vtok d ++ t)) (at_ + 1 + (sgn o).length) := by
    have h5 : o = 0 ∨ o = 1 ∨ o = 2 ∨ o = 3 ∨ o = 4 := by omega
    rcases h5 with rfl | rfl | rfl | rfl | rfl <;> rfl
  rw [h1]
  have h8 : d = 0 ∨ d = 1 ∨ d = 2 ∨ d = 3 ∨ d = 4 ∨ d = 5 ∨ d = 6 ∨ d = 7 := by omega
  congr 1
  rcases h8 with rfl | rfl | rfl | rfl | rfl | rfl | rfl | rfl <;> rcases ht with rfl | ⟨u, rfl⟩ <;> rfl
theorem lex_tail : ∀ (r : List (Nat × Nat)) (n at_ : Nat), (∀ p ∈ r, p.1 < 5 ∧ p.2 < 8) → 2 * r.length < n → lexL n (tailB r) at_ = toksOf r at_
  | [], n, at_, _, hn => by
    obtain ⟨m, rfl⟩ : ∃ m, n = m + 1 := ⟨n - 1, by omega⟩
    rfl
  | (o, d) :: r, n, at_, h, hn => by
    obtain ⟨m, rfl⟩ : ∃ m, n = m + 2 := ⟨n - 2, by simp at hn; omega⟩
    have h0 := h (o, d) (by simp)
    rw [tailB, lex_sgn o h0.1 d h0.2 _ (tail_head r), lex_tail r m _ (fun p hp => h p (by simp [hp])) (by simp at hn; omega)]
    rfl
end Go.Proofs.Ytmjpecjciibngaa
