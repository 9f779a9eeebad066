/- letter, number, variable, HasPrefix. -/
import Derived.Test.YtmjpecjciibngaaLexPure
namespace Go.Proofs.Ytmjpecjciibngaa
open Go.RowKit
set_option linter.unusedVariables false

theorem letter_any (c : UInt8) (w : World) : Calls Try.prog 58 #[.int .u8 (c.toNat : Int)] w fun e w' => e = .returned (.bool (isLet c)) ∧ w = w' := by
  have h : isLet c = ((decide ((97 : Int) ≤ (c.toNat : Int)) && decide ((c.toNat : Int) ≤ 122)) || (decide ((65 : Int) ≤ (c.toNat : Int)) && decide ((c.toNat : Int) ≤ 90))) := by
    unfold isLet
    congr 1 <;> congr 1 <;> rw [decide_eq_decide] <;> omega
  have H := Lib.hid h; clear h
  go_enter Try.func58, Try.ntmps58
  go_wp2
  all_goals
    go_ret
    refine ⟨ret_bool ?_, rfl⟩
    rw [H.out, Bool.eq_iff_iff]
    simp
    try omega
theorem number_any (c : UInt8) (w : World) : Calls Try.prog 59 #[.int .u8 (c.toNat : Int)] w fun e w' => e = .returned (.bool (isNum c)) ∧ w = w' := by
  have h : isNum c = ((decide ((48 : Int) ≤ (c.toNat : Int)) && decide ((c.toNat : Int) ≤ 57))) := by
    unfold isNum
    congr 1 <;> rw [decide_eq_decide] <;> omega
  have H := Lib.hid h; clear h
  go_enter Try.func59, Try.ntmps59
  go_wp2
  all_goals
    go_ret
    refine ⟨ret_bool ?_, rfl⟩
    rw [H.out, Bool.eq_iff_iff]
    simp
    try omega

theorem isVar_no (s : ByteArray) (h : s.size ≠ 2) : isVar s.data.toList = false := by
  have h' : s.data.toList.length ≠ 2 := by simpa using h
  unfold isVar
  split
  · rename_i a b e; rw [e] at h'; simp at h'
  · rfl
theorem isVar_two (s : ByteArray) (h : s.size = 2) : isVar s.data.toList = ((s[0]'(by omega)) == 118 && (decide (48 ≤ (s[1]'(by omega)).toNat) && decide ((s[1]'(by omega)).toNat ≤ 55))) := by
  have h' : s.data.toList.length = 2 := by simpa using h
  obtain ⟨⟨l⟩⟩ := s
  match l, h' with
  | [a, b], _ => rfl
theorem variable_any (s : ByteArray) (w : World) : Calls Try.prog 60 #[.string s] w fun e w' => e = .returned (.bool (isVar s.data.toList)) ∧ w = w' := by
  by_cases h2 : s.size = 2
  · have H := Lib.hid (isVar_two s h2)
    have e : ((s[0]'(by omega)) == 118) = (((s[0]'(by omega)).toNat : Int) == 118) := by
      rw [Bool.eq_iff_iff]; simp [← UInt8.toNat_inj]; omega
    rw [e] at H
    have h0 : 0 < s.size := by omega
    have h1 : 1 < s.size := by omega
    go_enter Try.func60, Try.ntmps60
    go_wp2
    all_goals
      go_ret
      refine ⟨ret_bool ?_, rfl⟩
      rw [H.out, Bool.eq_iff_iff]
      simp
      try omega
  · have H := Lib.hid (isVar_no s h2)
    have h3 : ((s.size : Int) == 2) = false := by simp; omega
    go_enter Try.func60, Try.ntmps60
    go_wp2
    go_ret
    exact ⟨ret_bool H.out.symm, rfl⟩
end Go.Proofs.Ytmjpecjciibngaa
