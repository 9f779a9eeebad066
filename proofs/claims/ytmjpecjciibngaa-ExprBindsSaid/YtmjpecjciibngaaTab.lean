/- Tables of functions of eight variables as four words: plain facts on bits, without a program. -/
import Derived.Test.YtmjpecjciibngaaRows
import Derived.WalkKit
namespace Go.Proofs.Ytmjpecjciibngaa
open Go.RowKit
set_option linter.unusedVariables false

/-- The first n bits of word i of a table. -/
def wdTo (f : Nat → Bool) (i : Nat) : Nat → Nat
  | 0 => 0
  | n + 1 => wdTo f i n + (if f (64 * i + n) then 2 ^ n else 0)
def wd (f : Nat → Bool) (i : Nat) : Nat := wdTo f i 64

theorem wdTo_lt (f : Nat → Bool) (i : Nat) : ∀ n, wdTo f i n < 2 ^ n
  | 0 => by simp [wdTo]
  | n + 1 => by
    have h := wdTo_lt f i n
    simp only [wdTo]
    rw [Nat.pow_succ]
    split <;> omega

theorem testBit_wdTo (f : Nat → Bool) (i : Nat) : ∀ n j, (wdTo f i n).testBit j = (decide (j < n) && f (64 * i + j))
  | 0, j => by simp [wdTo]
  | n + 1, j => by
    have h := wdTo_lt f i n
    have ih := testBit_wdTo f i n j
    simp only [wdTo]
    by_cases hf : f (64 * i + n) = true
    · rw [if_pos hf, Nat.add_comm]
      by_cases hj : j = n
      · subst hj
        rw [Nat.testBit_two_pow_add_eq, ih]; simp [hf]
      · by_cases hjn : j < n
        · rw [Nat.testBit_two_pow_add_gt hjn, ih]
          simp [hjn, Nat.lt_succ_of_lt hjn]
        · rw [Nat.testBit_lt_two_pow (Nat.lt_of_lt_of_le (show 2 ^ n + wdTo f i n < 2 ^ (n + 1) by rw [Nat.pow_succ]; omega) (Nat.pow_le_pow_right (by omega) (by omega)))]
          simp; omega
    · rw [if_neg hf, Nat.add_zero, ih]
      by_cases hj : j = n
      · subst hj; simp [hf]
      · by_cases hjn : j < n
        · simp [hjn, Nat.lt_succ_of_lt hjn]
        · simp [hjn]; omega

theorem wd_lt (f : Nat → Bool) (i : Nat) : wd f i < 18446744073709551616 := by
  have := wdTo_lt f i 64
  simpa [wd] using this

theorem testBit_wd (f : Nat → Bool) (i j : Nat) : (wd f i).testBit j = (decide (j < 64) && f (64 * i + j)) := testBit_wdTo f i 64 j

theorem wd_congr {f g : Nat → Bool} (h : ∀ x, x < 256 → f x = g x) {i : Nat} (hi : i < 4) : wd f i = wd g i := by
  apply Nat.eq_of_testBit_eq
  intro j
  rw [testBit_wd, testBit_wd]
  by_cases hj : j < 64
  · rw [h _ (by omega)]
  · simp [hj]

theorem wd_inj {f g : Nat → Bool} {i : Nat} (h : wd f i = wd g i) {j : Nat} (hj : j < 64) : f (64 * i + j) = g (64 * i + j) := by
  have := congrArg (fun n : Nat => n.testBit j) h
  simpa [testBit_wd, hj] using this

/-- Any word is the word of its bits. -/
theorem wd_of_words (n : Nat → Nat) (hn : ∀ i, n i < 18446744073709551616) (i : Nat) (hi : i < 4) : wd (fun x => (n (x / 64)).testBit (x % 64)) i = n i := by
  apply Nat.eq_of_testBit_eq
  intro j
  rw [testBit_wd]
  by_cases hj : j < 64
  · rw [show (64 * i + j) / 64 = i by omega, show (64 * i + j) % 64 = j by omega]; simp [hj]
  · rw [Nat.testBit_lt_two_pow (Nat.lt_of_lt_of_le (show n i < 2 ^ 64 from hn i) (Nat.pow_le_pow_right (by omega) (by omega)))]
    simp [hj]

abbrev tabCells (f : Nat → Bool) : Array Value := #[.int .u64 (wd f 0 : Nat), .int .u64 (wd f 1 : Nat), .int .u64 (wd f 2 : Nat), .int .u64 (wd f 3 : Nat)]
abbrev tabV (f : Nat → Bool) : Value := .agg (tabCells f)

theorem tabCells_get (f : Nat → Bool) {i : Nat} (hi : i < 4) : (tabCells f)[i]? = some (.int .u64 (wd f i : Nat)) := by
  match i, hi with
  | 0, _ => rfl
  | 1, _ => rfl
  | 2, _ => rfl
  | 3, _ => rfl

theorem tabCells_congr {f g : Nat → Bool} (h : ∀ x, x < 256 → f x = g x) : tabCells f = tabCells g := by
  simp only [tabCells, wd_congr h (show 0 < 4 by omega), wd_congr h (show 1 < 4 by omega), wd_congr h (show 2 < 4 by omega), wd_congr h (show 3 < 4 by omega)]

theorem tabV_congr {f g : Nat → Bool} (h : ∀ x, x < 256 → f x = g x) : tabV f = tabV g := by
  simp only [tabV, tabCells_congr h]

theorem wds_inj {f g : Nat → Bool} (h : ∀ i, i < 4 → wd f i = wd g i) : ∀ x, x < 256 → f x = g x := by
  intro x hx
  have := wd_inj (h (x / 64) (by omega)) (show x % 64 < 64 by omega)
  rwa [show 64 * (x / 64) + x % 64 = x by omega] at this

theorem wd_false (i : Nat) : wd (fun _ => false) i = 0 := by
  apply Nat.eq_of_testBit_eq; intro j; simp [testBit_wd]

/-- One bit more. -/
theorem wd_or_bit (f g : Nat → Bool) (x : Nat) (hg : g x = true) (hf : ∀ y, y ≠ x → f y = g y) : wd g (x / 64) = wd f (x / 64) ||| 2 ^ (x % 64) := by
  apply Nat.eq_of_testBit_eq
  intro j
  rw [Nat.testBit_or, testBit_wd, testBit_wd, Nat.testBit_two_pow]
  by_cases hj : j < 64
  · by_cases he : 64 * (x / 64) + j = x
    · rw [he, hg, show x % 64 = j by omega]; simp [hj]
    · rw [hf _ he]
      have : ¬ x % 64 = j := by omega
      simp [this]
  · have : ¬ x % 64 = j := by omega
    simp [hj, this]

theorem wd_same (f g : Nat → Bool) (i : Nat) (h : ∀ j, j < 64 → f (64 * i + j) = g (64 * i + j)) : wd f i = wd g i := by
  apply Nat.eq_of_testBit_eq
  intro j
  rw [testBit_wd, testBit_wd]
  by_cases hj : j < 64
  · rw [h j hj]
  · simp [hj]

theorem tabCells_set (f g : Nat → Bool) (x : Nat) (hx : x < 256) (hg : g x = true) (hf : ∀ y, y ≠ x → f y = g y) :
    (tabCells f).setIfInBounds (x / 64) (.int .u64 ((wd f (x / 64) ||| 2 ^ (x % 64) : Nat) : Int)) = tabCells g := by
  rw [← wd_or_bit f g x hg hf]
  have hs : ∀ i, i ≠ x / 64 → wd f i = wd g i := fun i hi => wd_same f g i fun j hj => hf _ (by omega)
  have h4 : x / 64 = 0 ∨ x / 64 = 1 ∨ x / 64 = 2 ∨ x / 64 = 3 := by omega
  unfold tabCells
  rcases h4 with h | h | h | h <;> rw [h] at hs ⊢
  · rw [hs 1 (by omega), hs 2 (by omega), hs 3 (by omega)]; rfl
  · rw [hs 0 (by omega), hs 2 (by omega), hs 3 (by omega)]; rfl
  · rw [hs 0 (by omega), hs 1 (by omega), hs 3 (by omega)]; rfl
  · rw [hs 0 (by omega), hs 1 (by omega), hs 2 (by omega)]; rfl

/- Words under the operations of the language. -/
theorem bv64 (a : Nat) (ha : a < 18446744073709551616) : (BitVec.ofInt 64 (a : Int)).toNat = a := by
  rw [BitVec.ofInt_natCast, BitVec.toNat_ofNat]; exact Nat.mod_eq_of_lt (by omega)
theorem bits_or_u64 (a b : Nat) (ha : a < 18446744073709551616) (hb : b < 18446744073709551616) : bits .or .u64 (a : Int) (b : Int) = ((a ||| b : Nat) : Int) := by
  have hx : a ||| b < 2 ^ 64 := Nat.or_lt_two_pow (by omega) (by omega)
  show IntKind.u64.wrap ((BitVec.ofInt 64 (a : Int) ||| BitVec.ofInt 64 (b : Int)).toNat : Int) = _
  rw [BitVec.toNat_or, bv64 a ha, bv64 b hb, IntKind.wrap_u64]; omega
theorem bits_and_u64 (a b : Nat) (ha : a < 18446744073709551616) (hb : b < 18446744073709551616) : bits .and .u64 (a : Int) (b : Int) = ((a &&& b : Nat) : Int) := by
  have hx : a &&& b < 2 ^ 64 := Nat.and_lt_two_pow _ (by omega)
  show IntKind.u64.wrap ((BitVec.ofInt 64 (a : Int) &&& BitVec.ofInt 64 (b : Int)).toNat : Int) = _
  rw [BitVec.toNat_and, bv64 a ha, bv64 b hb, IntKind.wrap_u64]; omega
theorem bits_xor_u64 (a b : Nat) (ha : a < 18446744073709551616) (hb : b < 18446744073709551616) : bits .xor .u64 (a : Int) (b : Int) = ((a ^^^ b : Nat) : Int) := bits_xor_u64_nat a b ha hb
theorem wd_or (f g : Nat → Bool) (i : Nat) : wd f i ||| wd g i = wd (fun x => f x || g x) i := by
  apply Nat.eq_of_testBit_eq; intro j; rw [Nat.testBit_or, testBit_wd, testBit_wd, testBit_wd]; cases decide (j < 64) <;> simp
theorem wd_and (f g : Nat → Bool) (i : Nat) : wd f i &&& wd g i = wd (fun x => f x && g x) i := by
  apply Nat.eq_of_testBit_eq; intro j; rw [Nat.testBit_and, testBit_wd, testBit_wd, testBit_wd]; cases decide (j < 64) <;> simp
theorem wd_xor (f g : Nat → Bool) (i : Nat) : wd f i ^^^ wd g i = wd (fun x => f x ^^ g x) i := by
  apply Nat.eq_of_testBit_eq; intro j; rw [Nat.testBit_xor, testBit_wd, testBit_wd, testBit_wd]; cases decide (j < 64) <;> simp
theorem wd_not (f : Nat → Bool) (i : Nat) : 18446744073709551615 ^^^ wd f i = wd (fun x => !f x) i := by
  apply Nat.eq_of_testBit_eq; intro j; rw [Nat.testBit_xor, testBit_wd, testBit_wd]
  have : Nat.testBit 18446744073709551615 j = decide (j < 64) := by
    have := Nat.testBit_two_pow_sub_one 64 j
    simpa using this
  rw [this]; cases decide (j < 64) <;> simp
end Go.Proofs.Ytmjpecjciibngaa
