/- The reader goes on to the next sign. -/
import Derived.Test.YtmjpecjciibngaaLex2
namespace Go.Proofs.Ytmjpecjciibngaa
open Go.RowKit
set_option linter.unusedVariables false

abbrev pcells (s t : Bs) (a d e ea : Nat) : Array Value := #[.string (str s), .string (str t), .int .i64 (a : Int), .int .i64 (d : Int), .int .i64 (e : Int), .int .i64 (ea : Int)]
def blanks (l : Bs) : Nat := (l.takeWhile isBlank).length
theorem six {w : World} {g : Nat} {t : TypeId} {a b c d e f : Value} (h : Blk w g t #[a, b, c, d, e, f]) :
    (w.cell? ⟨g, 0, none⟩ = some a ∧ w.cell? ⟨g, 1, none⟩ = some b ∧ w.cell? ⟨g, 2, none⟩ = some c ∧ w.cell? ⟨g, 3, none⟩ = some d ∧ w.cell? ⟨g, 4, none⟩ = some e ∧ w.cell? ⟨g, 5, none⟩ = some f) ∧
    (w.frozen? ⟨g, 0, none⟩ = false ∧ w.frozen? ⟨g, 1, none⟩ = false ∧ w.frozen? ⟨g, 2, none⟩ = false ∧ w.frozen? ⟨g, 3, none⟩ = false ∧ w.frozen? ⟨g, 4, none⟩ = false ∧ w.frozen? ⟨g, 5, none⟩ = false) :=
  ⟨⟨h.cell 0, h.cell 1, h.cell 2, h.cell 3, h.cell 4, h.cell 5⟩, h.free 0, h.free 1, h.free 2, h.free 3, h.free 4, h.free 5⟩
theorem getElem_str (s : Bs) (k : Nat) (h : k < s.length) (h' : k < (str s).size) : (str s)[k]'h' = s[k] := rfl
theorem blank_cases (c : UInt8) : (isBlank c = true ∧ c = 32) ∨ (isBlank c = true ∧ c ≠ 32 ∧ c = 9) ∨ (isBlank c = true ∧ c ≠ 32 ∧ c ≠ 9 ∧ c = 10) ∨ (isBlank c = false ∧ c ≠ 32 ∧ c ≠ 9 ∧ c ≠ 10) := by
  unfold isBlank
  by_cases h1 : c = 32
  · simp [h1]
  · by_cases h2 : c = 9
    · simp [h2]
    · by_cases h3 : c = 10
      · simp [h3]
      · simp [h1, h2, h3]
theorem byte_ne {c d : UInt8} (h : c ≠ d) : ((c.toNat : Int) == (d.toNat : Int)) = false := by
  rw [beq_eq_false_iff_ne]; intro e; apply h; rw [← UInt8.toNat_inj]; omega
theorem byte_eq {c d : UInt8} (h : c = d) : ((c.toNat : Int) == (d.toNat : Int)) = true := by subst h; simp

theorem drop_at {s : Bs} {n : Nat} (h : n < s.length) : s.drop n = s[n] :: s.drop (n + 1) := List.drop_eq_getElem_cons h
theorem blanks_yes {s : Bs} {n : Nat} (h : n < s.length) (hb : isBlank s[n] = true) : n + blanks (s.drop n) = n + 1 + blanks (s.drop (n + 1)) := by
  rw [drop_at h]; unfold blanks; rw [List.takeWhile_cons_of_pos hb, List.length_cons]; omega
theorem blanks_no {s : Bs} {n : Nat} (h : n < s.length) (hb : isBlank s[n] = false) : n + blanks (s.drop n) = n := by
  rw [drop_at h]; unfold blanks; rw [List.takeWhile_cons_of_neg (by simp [hb])]; rfl
theorem blanks_end {s : Bs} {n : Nat} (h : s.length ≤ n) : n + blanks (s.drop n) = n := by
  rw [List.drop_eq_nil_of_le h]; rfl
set_option maxRecDepth 100000 in
set_option maxHeartbeats 2000000 in
theorem goes_raw (b : Nat) (s t : Bs) (a d e ea : Nat) (w : World) (hs : s.length ≤ 4000) (ht : a + t.length ≤ s.length) (hB : Blk w b 62 (pcells s t a d e ea)) :
    Calls Try.prog 30 #[.pointer (some ⟨b, 0, none⟩)] w fun e' w' => e' = .returned (.tuple #[]) ∧ w.grownBy w' (some b) ∧
      Blk w' b 62 (pcells s (scanL (s.drop (a + t.length + blanks (s.drop (a + t.length))))) (a + t.length + blanks (s.drop (a + t.length))) d e ea) := by
  have hz : (str s).size = s.length := size_str s
  have hzt : (str t).size = t.length := size_str t
  obtain ⟨⟨c0, c1, c2, c3, c4, c5⟩, f0, f1, f2, f3, f4, f5⟩ := six hB
  have HB := Lib.hid hB; clear hB
  clear f0 f3 f4 f5 c3 c4 c5
  go_enter Try.func30, Try.ntmps30
  go_wp2_with fail
  go_quiet (fail)
  go_wp2_with fail
  generalize hN : a + t.length + blanks (s.drop (a + t.length)) = N
  have HN := Lib.hid hN; clear hN
  go_loop [2] (fun i => ∃ n : Nat, a + t.length ≤ n ∧ n ≤ s.length ∧ i = .int .i64 n ∧ n + blanks (s.drop n) = N) (fun i => s.length - (intOf i).toNat)
  case atStart => exact ⟨a + t.length, by omega, by omega, by go_num, HN.out⟩
  case round =>
    obtain ⟨n, hn1, hn, rfl, hb⟩ := hrel
    have HBl := Lib.hid hb; clear hb
    by_cases hlt : n < s.length
    · have hgt : n < (str s).size := by omega
      have hc := getElem_str s n hlt hgt
      have HC := Lib.hid hc; clear hc
      rcases blank_cases s[n] with ⟨k, h1⟩ | ⟨k, h1, h2⟩ | ⟨k, h1, h2, h3⟩ | ⟨k, h1, h2, h3⟩
      · have e1 : (((str s)[n].toNat : Int) == 32) = true := byte_eq (d := 32) (HC.out.trans h1)
        have HK := Lib.hid k
        clear h1 k
        go_wp2_with fail
        go_round
        case rel => exact ⟨n + 1, by omega, by omega, by go_num, (blanks_yes hlt HK.out).symm.trans HBl.out⟩
        case measure => simp [intOf]; omega
      · have e1 : (((str s)[n].toNat : Int) == 32) = false := byte_ne (d := 32) (fun e => h1 (HC.out.symm.trans e))
        have e2 : (((str s)[n].toNat : Int) == 9) = true := byte_eq (d := 9) (HC.out.trans h2)
        have HK := Lib.hid k
        clear h1 h2 k
        go_wp2_with fail
        go_round
        case rel => exact ⟨n + 1, by omega, by omega, by go_num, (blanks_yes hlt HK.out).symm.trans HBl.out⟩
        case measure => simp [intOf]; omega
      · have e1 : (((str s)[n].toNat : Int) == 32) = false := byte_ne (d := 32) (fun e => h1 (HC.out.symm.trans e))
        have e2 : (((str s)[n].toNat : Int) == 9) = false := byte_ne (d := 9) (fun e => h2 (HC.out.symm.trans e))
        have e3 : (((str s)[n].toNat : Int) == 10) = true := byte_eq (d := 10) (HC.out.trans h3)
        have HK := Lib.hid k
        clear h1 h2 h3 k
        go_wp2_with fail
        go_round
        case rel => exact ⟨n + 1, by omega, by omega, by go_num, (blanks_yes hlt HK.out).symm.trans HBl.out⟩
        case measure => simp [intOf]; omega
      · have e1 : (((str s)[n].toNat : Int) == 32) = false := byte_ne (d := 32) (fun e => h1 (HC.out.symm.trans e))
        have e2 : (((str s)[n].toNat : Int) == 9) = false := byte_ne (d := 9) (fun e => h2 (HC.out.symm.trans e))
        have e3 : (((str s)[n].toNat : Int) == 10) = false := byte_ne (d := 10) (fun e => h3 (HC.out.symm.trans e))
        have hnN : n = N := (blanks_no hlt k).symm.trans HBl.out
        have HnN := Lib.hid hnN
        clear h1 h2 h3 k hnN
        have HX : Hid ((((str s).extract n s.length).data.toList) = s.drop n) := by
          show _ = _
          rw [data_extract, data_str, List.take_of_length_le (by rw [List.length_drop]; omega)]
        have HY : Hid (List.take (s.length - n) (List.drop n (str s).data.toList) = s.drop n) := by
          show _ = _
          rw [data_str, List.take_of_length_le (by rw [List.length_drop]; omega)]
        go_wp2_with fail
        refine (scan_any _ ?_ _).mono ?_
        · rw [← len_data, HX.out, List.length_drop]; omega
        rintro e w1 ⟨rfl, rfl⟩
        go_wp2_with fail
        go_end0
        refine ⟨rfl, grown_at (grown_at (grown_below ((Below.refl _ _).drewN _) _) _ _) _ _, ?_⟩
        rw [HY.out, HN.out, ← HnN.out]
        exact ((HB.out.drewN nq).set 1 _).set 2 _
    · have hnN : n = N := (blanks_end (by omega)).symm.trans HBl.out
      have HnN := Lib.hid hnN
      clear hnN
      have HX : Hid ((((str s).extract n s.length).data.toList) = s.drop n) := by
        show _ = _
        rw [data_extract, data_str, List.take_of_length_le (by rw [List.length_drop]; omega)]
      have HY : Hid (List.take (s.length - n) (List.drop n (str s).data.toList) = s.drop n) := by
        show _ = _
        rw [data_str, List.take_of_length_le (by rw [List.length_drop]; omega)]
      go_wp2_with fail
      refine (scan_any _ ?_ _).mono ?_
      · rw [← len_data, HX.out, List.length_drop]; omega
      rintro e w1 ⟨rfl, rfl⟩
      go_wp2_with fail
      go_end0
      refine ⟨rfl, grown_at (grown_at (grown_below ((Below.refl _ _).drewN _) _) _ _) _ _, ?_⟩
      rw [HY.out, HN.out, ← HnN.out]
      exact ((HB.out.drewN nq).set 1 _).set 2 _
end Go.Proofs.Ytmjpecjciibngaa
