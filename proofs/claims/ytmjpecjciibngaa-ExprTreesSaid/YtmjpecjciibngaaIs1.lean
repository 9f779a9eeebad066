/- plain, kids. -/
import Derived.Test.YtmjpecjciibngaaBLex
import Derived.BigQuiet
namespace Go.Proofs.Ytmjpecjciibngaa
open Go.RowKit
set_option linter.unusedVariables false

def kidsOf (k : Int) : Int := if (k == 3 || (k == 10 || k == 11)) = true then 1 else if (k == 4 || (k == 5 || (k == 6 || (k == 7 || k == 8)))) = true then 2 else if (k == 9) = true then 3 else 0
def topOf (k : Int) : Int := if (k == 1 || (k == 10 || k == 11)) = true then 7 else if (k == 2) = true then 1 else 0
def plainB (k v : Int) (n : Nat) : Bool := decide (1 ≤ k ∧ k ≤ 11 ∧ (n : Int) = kidsOf k ∧ 0 ≤ v ∧ v ≤ topOf k)

set_option maxHeartbeats 1000000 in
theorem kids_any (k : Int) (w : World) : Calls Try.prog 52 #[.int .i64 k] w fun e w' => e = .returned (.int .i64 (kidsOf k)) ∧ w = w' := by
  go_enter Try.func52, Try.ntmps52
  go_wp2
  all_goals
    go_ret
    exact ⟨ret_int (by simp only [kidsOf, *]; rfl), rfl⟩
theorem kidsOf_le (k : Int) : 0 ≤ kidsOf k ∧ kidsOf k ≤ 3 := by unfold kidsOf; (repeat' split) <;> omega
theorem plainB_of {k v : Int} {n : Nat} (h1 : ¬ k < 1) (h2 : ¬ 11 < k) (h3 : (n : Int) = kidsOf k) : plainB k v n = (decide (0 ≤ v) && decide (v ≤ topOf k)) := by
  unfold plainB
  rw [Bool.eq_iff_iff]
  simp only [decide_eq_true_eq, Bool.and_eq_true]
  omega

set_option maxRecDepth 100000 in
set_option maxHeartbeats 2000000 in
theorem plain_any (k a v : Int) (A : Option Addr) (n c : Nat) (w : World) (hn : n ≤ 140737488351232) :
    Calls Try.prog 34 #[.agg #[.int .i64 k, .int .i64 a, .int .i64 v, .slice A n c]] w fun e w' => e = .returned (.bool (plainB k v n)) ∧ Below w.heap.size w w' := by
  by_cases h1 : k < 1
  · have hF : plainB k v n = false := by unfold plainB; simp; omega
    have HF := Lib.hid hF; clear hF
    have d1 : decide (k < 1) = true := by simpa using h1
    go_enter Try.func34, Try.ntmps34
    go_wp2_with fail
    go_quiet (fail)
    go_wp2_with fail
    go_ret
    exact ⟨ret_bool HF.out.symm, (below1 _ _).drewN _⟩
  · have d1 : decide (k < 1) = false := by simpa using h1
    by_cases h2 : 11 < k
    · have hF : plainB k v n = false := by unfold plainB; simp; omega
      have HF := Lib.hid hF; clear hF
      have d2 : decide (11 < k) = true := by simpa using h2
      go_enter Try.func34, Try.ntmps34
      go_wp2_with fail
      go_quiet (fail)
      go_wp2_with fail
      go_ret
      exact ⟨ret_bool HF.out.symm, (below1 _ _).drewN _⟩
    · have d2 : decide (11 < k) = false := by simpa using h2
      by_cases h3 : (n : Int) = kidsOf k
      · have d3 : ((n : Int) != kidsOf k) = false := by simp [h3]
        have H3 := Lib.hid (plainB_of (v := v) h1 h2 h3); clear h3
        go_enter Try.func34, Try.ntmps34
        go_wp2_with fail
        go_quiet ((go_at_call 52; exact Calls.quiet_of_same ((kids_any k _).mono fun _ _ h => ⟨h.1, h.2.symm⟩)))
        go_wp2
        all_goals
          go_ret
          refine ⟨ret_bool ?_, (below1 _ _).drewN _⟩
          rw [H3.out]
          simp only [topOf, *]
          simp [*]
          try omega
      · have d3 : ((n : Int) != kidsOf k) = true := by simpa using h3
        have hF : plainB k v n = false := by unfold plainB; simp; omega
        have HF := Lib.hid hF; clear hF h3
        go_enter Try.func34, Try.ntmps34
        go_wp2_with fail
        go_quiet ((go_at_call 52; exact Calls.quiet_of_same ((kids_any k _).mono fun _ _ h => ⟨h.1, h.2.symm⟩)))
        go_wp2_with fail
        go_ret
        exact ⟨ret_bool HF.out.symm, (below1 _ _).drewN _⟩
end Go.Proofs.Ytmjpecjciibngaa
