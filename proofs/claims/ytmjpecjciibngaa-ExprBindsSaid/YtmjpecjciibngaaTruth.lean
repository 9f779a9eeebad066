/- The package truth: each exported function computes the table of its meaning. -/
import Derived.Test.YtmjpecjciibngaaTruthOf
import Derived.Deep.RegionHeld3
namespace Go.Proofs.Ytmjpecjciibngaa
open Go.RowKit
set_option linter.unusedVariables false

/-- An assignment with variable v set. -/
def withB (x v : Nat) (b : Bool) : Nat := if b then x ||| 2 ^ v else (x ||| 2 ^ v) ^^^ 2 ^ v
theorem testBit_withB (x v : Nat) (b : Bool) (j : Nat) : (withB x v b).testBit j = if j = v then b else x.testBit j := by
  unfold withB
  cases b
  · rw [if_neg (by simp), Nat.testBit_xor, Nat.testBit_or, Nat.testBit_two_pow]
    by_cases h : v = j
    · subst h; simp
    · have : ¬ j = v := fun e => h e.symm
      simp [h, this]
  · rw [if_pos rfl, Nat.testBit_or, Nat.testBit_two_pow]
    by_cases h : v = j
    · subst h; simp
    · have : ¬ j = v := fun e => h e.symm
      simp [h, this]
theorem withB_lt {x v : Nat} (b : Bool) (hx : x < 256) (hv : v < 8) : withB x v b < 256 := by
  have h2 : 2 ^ v < 2 ^ 8 := Nat.pow_lt_pow_right (by omega) hv
  have h1 : x ||| 2 ^ v < 2 ^ 8 := Nat.or_lt_two_pow (by omega) h2
  unfold withB
  cases b
  · rw [if_neg (by simp)]; exact Nat.xor_lt_two_pow h1 h2
  · rw [if_pos rfl]; exact h1

theorem bv8 (a : Nat) (ha : a < 256) : (BitVec.ofInt 8 (a : Int)).toNat = a := by
  rw [BitVec.ofInt_natCast, BitVec.toNat_ofNat]; exact Nat.mod_eq_of_lt (by omega)
theorem wrap_u8 (n : Int) : IntKind.u8.wrap n = n % 256 := by simp [IntKind.wrap, IntKind.bits, IntKind.signed]
theorem shl1_u8 (v : Nat) (hv : v < 8) : IntKind.u8.wrap (2 ^ v) = ((2 ^ v : Nat) : Int) := by
  rw [wrap_u8]
  have h : 2 ^ v < 2 ^ 8 := Nat.pow_lt_pow_right (by omega) hv
  have h2 : ((2 : Int) ^ v) = ((2 ^ v : Nat) : Int) := by rw [Int.natCast_pow]; rfl
  rw [h2]
  generalize 2 ^ v = a at *
  omega
theorem shl1_u8' (v : Nat) (hv : v < 8) : (2 : Int) ^ v % 256 = ((2 ^ v : Nat) : Int) := by rw [← wrap_u8, shl1_u8 v hv]
theorem bits_or_u8 (a b : Nat) (ha : a < 256) (hb : b < 256) : bits .or .u8 (a : Int) (b : Int) = ((a ||| b : Nat) : Int) := by
  have hx : a ||| b < 2 ^ 8 := Nat.or_lt_two_pow (by omega) (by omega)
  show IntKind.u8.wrap ((BitVec.ofInt 8 (a : Int) ||| BitVec.ofInt 8 (b : Int)).toNat : Int) = _
  rw [BitVec.toNat_or, bv8 a ha, bv8 b hb, wrap_u8]; omega
theorem bits_and_u8 (a b : Nat) (ha : a < 256) (hb : b < 256) : bits .and .u8 (a : Int) (b : Int) = ((a &&& b : Nat) : Int) := by
  have hx : a &&& b < 2 ^ 8 := Nat.and_lt_two_pow _ (by omega)
  show IntKind.u8.wrap ((BitVec.ofInt 8 (a : Int) &&& BitVec.ofInt 8 (b : Int)).toNat : Int) = _
  rw [BitVec.toNat_and, bv8 a ha, bv8 b hb, wrap_u8]; omega
theorem bits_andNot_u8 (x v : Nat) (ha : x < 256) (hv : v < 8) : bits .andNot .u8 (x : Int) ((2 ^ v : Nat) : Int) = ((withB x v false : Nat) : Int) := by
  have hb : 2 ^ v < 2 ^ 8 := Nat.pow_lt_pow_right (by omega) hv
  show IntKind.u8.wrap ((BitVec.ofInt 8 (x : Int) &&& ~~~BitVec.ofInt 8 ((2 ^ v : Nat) : Int)).toNat : Int) = _
  have e : (BitVec.ofInt 8 (x : Int) &&& ~~~BitVec.ofInt 8 ((2 ^ v : Nat) : Int)).toNat = withB x v false := by
    apply Nat.eq_of_testBit_eq
    intro j
    rw [testBit_withB, BitVec.testBit_toNat, BitVec.getLsbD_and, BitVec.getLsbD_not, ← BitVec.testBit_toNat, ← BitVec.testBit_toNat, bv8 x ha, bv8 _ hb, Nat.testBit_two_pow]
    by_cases h : v = j
    · subst h; simp
    · have h' : ¬ j = v := fun e => h e.symm
      by_cases hj : j < 8
      · simp [h, h', hj]
      · have : x.testBit j = false := Nat.testBit_lt_two_pow (Nat.lt_of_lt_of_le (show x < 2 ^ 8 from ha) (Nat.pow_le_pow_right (by omega) (by omega)))
        simp [this, h']
  rw [e, wrap_u8]
  have := withB_lt false ha hv
  omega
/-- The bit that '>> & 1 == 1' asks for. -/
theorem shr_and_u8 (x v : Nat) (hx : x < 256) (hv : v ≤ 8) : (bits .and .u8 ((x : Int) / (2 ^ v : Int)) 1 == 1) = x.testBit v := by
  have h2 : ((x : Int) / (2 ^ v : Int)) = ((x / 2 ^ v : Nat) : Int) := by rw [Int.natCast_ediv, Int.natCast_pow]; rfl
  have hle : x / 2 ^ v < 256 := Nat.lt_of_le_of_lt (Nat.div_le_self _ _) hx
  rw [h2, show (1 : Int) = ((1 : Nat) : Int) from rfl, bits_and_u8 _ _ hle (by omega), Nat.and_one_is_mod, Nat.testBit_eq_decide_div_mod_eq]
  simp only [Bool.beq_eq_decide_eq]
  congr 1
  rw [eq_iff_iff]; constructor <;> intro h <;> omega
theorem shr_and_u64 (x v : Nat) (hx : x < 18446744073709551616) : (bits .and .u64 ((x : Int) / (2 ^ v : Int)) 1 == 1) = x.testBit v := by
  have h2 : ((x : Int) / (2 ^ v : Int)) = ((x / 2 ^ v : Nat) : Int) := by rw [Int.natCast_ediv, Int.natCast_pow]; rfl
  have hle : x / 2 ^ v < 18446744073709551616 := Nat.lt_of_le_of_lt (Nat.div_le_self _ _) hx
  rw [h2, show (1 : Int) = ((1 : Nat) : Int) from rfl, bits_and_u64 _ _ hle (by omega), Nat.and_one_is_mod, Nat.testBit_eq_decide_div_mod_eq]
  simp only [Bool.beq_eq_decide_eq]
  congr 1
  rw [eq_iff_iff]; constructor <;> intro h <;> omega
end Go.Proofs.Ytmjpecjciibngaa
