/- == of two tables. -/
import Derived.Test.YtmjpecjciibngaaBBase
import Derived.ChangeKeysEq
namespace Go.Proofs.Ytmjpecjciibngaa
open Go.RowKit
set_option linter.unusedVariables false
theorem wds_iff (f g : Nat → Bool) : (((wd f 0 : Nat) : Int) == ((wd g 0 : Nat) : Int) && (((wd f 1 : Nat) : Int) == ((wd g 1 : Nat) : Int) && (((wd f 2 : Nat) : Int) == ((wd g 2 : Nat) : Int) && ((wd f 3 : Nat) : Int) == ((wd g 3 : Nat) : Int)))) = true ↔ ∀ x, x < 256 → f x = g x := by
  constructor
  · intro h
    simp only [Bool.and_eq_true, beq_iff_eq] at h
    refine wds_inj fun i hi => ?_
    match i, hi with
    | 0, _ => omega
    | 1, _ => omega
    | 2, _ => omega
    | 3, _ => omega
  · intro h
    rw [wd_congr h (show 0 < 4 by omega), wd_congr h (show 1 < 4 by omega), wd_congr h (show 2 < 4 by omega), wd_congr h (show 3 < 4 by omega)]
    simp
theorem eqTab (f g : Nat → Bool) (w : World) : (Op.equalIn 10000 29 (.agg (tabCells f)) (.agg (tabCells g))).run Try.prog w = .ok (((wd f 0 : Nat) : Int) == ((wd g 0 : Nat) : Int) && (((wd f 1 : Nat) : Int) == ((wd g 1 : Nat) : Int) && (((wd f 2 : Nat) : Int) == ((wd g 2 : Nat) : Int) && ((wd f 3 : Nat) : Int) == ((wd g 3 : Nat) : Int)))) w := by
  obtain ⟨i, hi⟩ : ∃ i, Try.prog.info? 27 = some i := Option.isSome_iff_exists.1 (by kernel_rfl)
  have hc : Try.prog.cellsOf 27 = 1 := by kernel_rfl
  have hu : Try.prog.underlying 27 = some (.int .u64) := by kernel_rfl
  have hp : ∀ (xs : Array Value) (j : Nat) (n : Int) (W : World), xs[j]? = some (.int .u64 n) → (part 27 xs j).run Try.prog W = .ok (.int .u64 n) W := by
    intro xs j n W hx
    simp [part, hx]
  rw [show (10000 : Nat) = 9999 + 1 from rfl, run_equalIn_array w 9999 (tabCells f) (tabCells g) Try.underlying29 hi, hc, show List.range 4 = [0, 1, 2, 3] from rfl]
  have he : ∀ (a b : Int) (W : World), (Op.equalIn 9999 27 (.int .u64 a) (.int .u64 b)).run Try.prog W = .ok (a == b) W := fun a b W => run_equalIn_int W 9998 27 .u64 .u64 a b hu
  have f0 := fun W => hp (tabCells f) 0 (wd f 0 : Nat) W rfl
  have f1 := fun W => hp (tabCells f) 1 (wd f 1 : Nat) W rfl
  have f2 := fun W => hp (tabCells f) 2 (wd f 2 : Nat) W rfl
  have f3 := fun W => hp (tabCells f) 3 (wd f 3 : Nat) W rfl
  have g0 := fun W => hp (tabCells g) 0 (wd g 0 : Nat) W rfl
  have g1 := fun W => hp (tabCells g) 1 (wd g 1 : Nat) W rfl
  have g2 := fun W => hp (tabCells g) 2 (wd g 2 : Nat) W rfl
  have g3 := fun W => hp (tabCells g) 3 (wd g 3 : Nat) W rfl
  cases h0 : (((wd f 0 : Nat) : Int) == ((wd g 0 : Nat) : Int)) <;> cases h1 : (((wd f 1 : Nat) : Int) == ((wd g 1 : Nat) : Int)) <;> cases h2 : (((wd f 2 : Nat) : Int) == ((wd g 2 : Nat) : Int)) <;> cases h3 : (((wd f 3 : Nat) : Int) == ((wd g 3 : Nat) : Int)) <;>
    simp only [Op.eqItems, Nat.mul_one, Sem.run_bind, Sem.run_pure, f0, f1, f2, f3, g0, g1, g2, g3, he, Result.andThen_ok, h0, h1, h2, h3, Bool.not_true, Bool.not_false, Bool.false_eq_true, if_true, if_false, Bool.and_true, Bool.and_false]
end Go.Proofs.Ytmjpecjciibngaa
