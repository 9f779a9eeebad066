/- letter, number, variable, HasPrefix. HasPrefix and scan. The reader goes on to the next sign. The reader in memory: bad, may, must. The reader in memory: may, must. Formulas in memory. -/
import Derived.Test.YtmjpecjciibngaaBBase
namespace Go.Proofs.Ytmjpecjciibngaa
open Go.RowKit
set_option linter.unusedVariables false

theorem letter_any (c : UInt8) (w : World) : Calls Try.prog 58 #[.int .u8 (c.toNat : Int)] w fun e w' => e = .returned (.bool (isLet c)) ∧ w = w' := by
  have h : isLet c = ((decide ((97 : Int) ≤ (c.toNat : Int)) && decide ((c.toNat : Int) ≤ 122)) || (decide ((65 : Int) ≤ (c.toNat : Int)) && decide ((c.toNat : Int) ≤ 90))) := by
    unfold isLet
    congr 1 <;> congr 1 <;> rw [decide_eq_decide] <;> omega
  have H := Lib.hid h; clear h
  go_enter Try.func58, Try.ntmps58
  go_wp2
  all_goals
    go_ret
    refine ⟨ret_bool ?_, rfl⟩
    rw [H.out, Bool.eq_iff_iff]
    simp
    try omega
theorem number_any (c : UInt8) (w : World) : Calls Try.prog 59 #[.int .u8 (c.toNat : Int)] w fun e w' => e = .returned (.bool (isNum c)) ∧ w = w' := by
  have h : isNum c = ((decide ((48 : Int) ≤ (c.toNat : Int)) && decide ((c.toNat : Int) ≤ 57))) := by
    unfold isNum
    congr 1 <;> rw [decide_eq_decide] <;> omega
  have H := Lib.hid h; clear h
  go_enter Try.func59, Try.ntmps59
  go_wp2
  all_goals
    go_ret
    refine ⟨ret_bool ?_, rfl⟩
    rw [H.out, Bool.eq_iff_iff]
    simp
    try omega

theorem isVar_no (s : ByteArray) (h : s.size ≠ 2) : isVar s.data.toList = false := by
  have h' : s.data.toList.length ≠ 2 := by simpa using h
  unfold isVar
  split
  · rename_i a b e; rw [e] at h'; simp at h'
  · rfl
theorem isVar_two (s : ByteArray) (h : s.size = 2) : isVar s.data.toList = ((s[0]'(by omega)) == 118 && (decide (48 ≤ (s[1]'(by omega)).toNat) && decide ((s[1]'(by omega)).toNat ≤ 55))) := by
  have h' : s.data.toList.length = 2 := by simpa using h
  obtain ⟨⟨l⟩⟩ := s
  match l, h' with
  | [a, b], _ => rfl
theorem variable_any (s : ByteArray) (w : World) : Calls Try.prog 60 #[.string s] w fun e w' => e = .returned (.bool (isVar s.data.toList)) ∧ w = w' := by
  by_cases h2 : s.size = 2
  · have H := Lib.hid (isVar_two s h2)
    have e : ((s[0]'(by omega)) == 118) = (((s[0]'(by omega)).toNat : Int) == 118) := by
      rw [Bool.eq_iff_iff]; simp [← UInt8.toNat_inj]; omega
    rw [e] at H
    have h0 : 0 < s.size := by omega
    have h1 : 1 < s.size := by omega
    go_enter Try.func60, Try.ntmps60
    go_wp2
    all_goals
      go_ret
      refine ⟨ret_bool ?_, rfl⟩
      rw [H.out, Bool.eq_iff_iff]
      simp
      try omega
  · have H := Lib.hid (isVar_no s h2)
    have h3 : ((s.size : Int) == 2) = false := by simp; omega
    go_enter Try.func60, Try.ntmps60
    go_wp2
    go_ret
    exact ⟨ret_bool H.out.symm, rfl⟩
end Go.Proofs.Ytmjpecjciibngaa
namespace Go.Proofs.Ytmjpecjciibngaa
open Go.RowKit
set_option linter.unusedVariables false

theorem str_data (s : ByteArray) : str s.data.toList = s := by cases s; rfl
theorem data_str (l : Bs) : (str l).data.toList = l := by simp [str]
theorem str_inj {a b : Bs} (h : str a = str b) : a = b := by
  have := congrArg (fun s : ByteArray => s.data.toList) h
  simpa [str] using this
theorem size_str (l : Bs) : (str l).size = l.length := by simp [str, ByteArray.size]
theorem data_extract (s : ByteArray) (a b : Nat) : (s.extract a b).data.toList = (s.data.toList.drop a).take (b - a) := by
  rw [ByteArray.data_extract, Array.toList_extract]
theorem len_data (s : ByteArray) : s.data.toList.length = s.size := by rw [Array.length_toList]; rfl
theorem drop_cons (s : ByteArray) (k : Nat) (h : k < s.size) : s.data.toList.drop k = s[k] :: s.data.toList.drop (k + 1) := by
  rw [List.drop_eq_getElem_cons (by rw [len_data]; exact h)]
  rfl
theorem ret_str {a b : ByteArray} (h : a = b) : Ending.returned (.string a) = .returned (.string b) := by rw [h]
theorem isPrefixOf_take (p s : Bs) : (s.take p.length == p) = p.isPrefixOf s := by
  induction p generalizing s with
  | nil => simp
  | cons a p ih =>
    cases s with
    | nil => simp
    | cons b s =>
      simp only [List.length_cons, List.take_succ_cons, List.isPrefixOf_cons_cons, ← ih s]
      rw [List.cons_beq_cons]
      congr 1
      exact Bool.beq_comm
theorem isPrefixOf_len {p s : Bs} (h : ¬ p.length ≤ s.length) : p.isPrefixOf s = false := by
  cases e : p.isPrefixOf s
  · rfl
  · have := (List.isPrefixOf_iff_prefix.1 e).length_le; omega

theorem hasPrefix2_any (s p : ByteArray) (hs : s.size ≤ 140737488351232) (hp : p.size ≤ 140737488351232) (w : World) :
    Calls Try.prog 76 #[.string s, .string p] w fun e w' => e = .returned (.bool (p.data.toList.isPrefixOf s.data.toList)) ∧ w = w' := by
  by_cases h : p.size ≤ s.size
  · have H : Hid (((s.extract 0 p.size).toList == p.toList) = p.data.toList.isPrefixOf s.data.toList) := by
      show _ = _
      rw [ByteArray.toList_eq, ByteArray.toList_eq, data_extract, ← isPrefixOf_take]
      rw [List.drop_zero, Nat.sub_zero, len_data]
    go_enter Try.func76, Try.ntmps76
    go_wp2
    go_ret
    exact ⟨ret_bool H.out, rfl⟩
  · have H : Hid (p.data.toList.isPrefixOf s.data.toList = false) := isPrefixOf_len (by rw [len_data, len_data]; exact h)
    go_enter Try.func76, Try.ntmps76
    go_wp2
    go_ret
    exact ⟨ret_bool H.out.symm, rfl⟩
theorem hasPrefix_any (s p : ByteArray) (hs : s.size ≤ 140737488351232) (hp : p.size ≤ 140737488351232) (w : World) :
    Calls Try.prog 57 #[.string s, .string p] w fun e w' => e = .returned (.bool (p.data.toList.isPrefixOf s.data.toList)) ∧ w = w' := by
  go_enter Try.func57, Try.ntmps57
  go_wp2_with fail
  refine (hasPrefix2_any s p hs hp _).mono ?_
  rintro e w1 ⟨rfl, rfl⟩
  go_wp2_with fail
  go_ret
  exact ⟨ret_bool (List.isPrefixOf_toArray ..) , rfl⟩

/-- None of the first k signs begins the text. -/
def noSign (k : Nat) (l : Bs) : Prop := ∀ j, j < k → ∀ t, signs[j]? = some t → t.isPrefixOf l = false
theorem noSign_zero (l : Bs) : noSign 0 l := fun j hj => absurd hj (by omega)
theorem noSign_succ {k : Nat} {l t : Bs} (h : noSign k l) (ht : signs[k]? = some t) (hn : t.isPrefixOf l = false) : noSign (k + 1) l := by
  intro j hj u hu
  by_cases e : j = k
  · subst e; rw [ht] at hu; cases hu; exact hn
  · exact h j (by omega) u hu
theorem find_of {L : List Bs} {k : Nat} {l t : Bs} (h : ∀ j, j < k → ∀ t, L[j]? = some t → t.isPrefixOf l = false) (ht : L[k]? = some t) (hp : t.isPrefixOf l = true) : L.find? (fun k => k.isPrefixOf l) = some t := by
  induction L generalizing k with
  | nil => simp at ht
  | cons a L ih =>
    cases k with
    | zero => simp at ht; subst ht; simp [hp]
    | succ k =>
      have h0 := h 0 (by omega) a (by simp)
      rw [List.find?_cons_of_neg (by simp [h0])]
      exact ih (k := k) (fun j hj t ht => h (j + 1) (by omega) t (by simpa using ht)) (by simpa using ht)
theorem scan_sign {k : Nat} {l t : Bs} (h : noSign k l) (ht : signs[k]? = some t) (hp : t.isPrefixOf l = true) : scanL l = t := by
  unfold scanL
  rw [find_of h ht hp]
theorem find_none {l : Bs} (h : noSign 9 l) : signs.find? (fun k => k.isPrefixOf l) = none := by
  rw [List.find?_eq_none]
  intro x hx
  obtain ⟨j, hj, rfl⟩ := List.getElem_of_mem hx
  have := h j (by simpa [signs] using hj) _ (List.getElem?_eq_getElem hj)
  simp [this]

theorem scan_nil {l : Bs} (h : signs.find? (fun k => k.isPrefixOf l) = none) (e : l = []) : scanL l = [] := by
  unfold scanL; rw [h]; subst e; rfl
theorem scan_digit {l r : Bs} {c : UInt8} (h : signs.find? (fun k => k.isPrefixOf l) = none) (e : l = c :: r) (hc : (c == 48 || c == 49) = true) : scanL l = [c] := by
  unfold scanL; rw [h]; subst e; simp only; rw [if_pos hc]
theorem scan_bad {l r : Bs} {c : UInt8} (h : signs.find? (fun k => k.isPrefixOf l) = none) (e : l = c :: r) (hc : (c == 48 || c == 49) = false) (hl : isLet c = false) : scanL l = [63] := by
  unfold scanL; rw [h]; subst e; simp only; rw [if_neg (by simp [hc]), if_pos (by simp [hl])]
theorem scan_word {l r : Bs} {c : UInt8} (h : signs.find? (fun k => k.isPrefixOf l) = none) (e : l = c :: r) (hc : (c == 48 || c == 49) = false) (hl : isLet c = true) :
    scanL l = if c :: word r == [97, 108, 108] || (c :: word r == [97, 110, 121] || (c :: word r == [105, 116, 101] || isVar (c :: word r))) then c :: word r else [63] := by
  unfold scanL; rw [h]; subst e; simp only; rw [if_neg (by simp [hc]), if_neg (by simp [hl])]
theorem word_more {l : Bs} {n : Nat} {c : UInt8} (hn : 1 ≤ n) (hd : l.drop n = c :: l.drop (n + 1)) (hc : (isLet c || isNum c) = true) (h : (l.drop 1).take (n - 1) ++ word (l.drop n) = word (l.drop 1)) :
    (l.drop 1).take (n + 1 - 1) ++ word (l.drop (n + 1)) = word (l.drop 1) := by
  rw [← h, hd]
  unfold word
  rw [List.takeWhile_cons_of_pos (by exact hc)]
  have e : (l.drop 1)[n - 1]? = some c := by
    rw [List.getElem?_drop, show 1 + (n - 1) = n by omega, ← List.head?_drop, hd]; rfl
  rw [show n + 1 - 1 = (n - 1) + 1 by omega, List.take_add_one, e]
  simp
theorem take_word {l : Bs} {c : UInt8} {n : Nat} {W : Bs} (hd : l = c :: l.drop (0 + 1)) (hn : 1 ≤ n) (h : (l.drop 1).take (n - 1) = W) : (l.drop 0).take (n - 0) = c :: W := by
  obtain ⟨m, rfl⟩ : ∃ m, n = m + 1 := ⟨n - 1, by omega⟩
  cases l with
  | nil => cases hd
  | cons a r =>
    simp only [List.drop_succ_cons, List.drop_zero, List.cons.injEq] at hd
    rw [← h, ← hd.1]; rfl
theorem eq_or_ne2 (a b : Bs) : ((a == b) = false ∧ ¬ a = b) ∨ ((a == b) = true ∧ a = b) := by
  by_cases h : a = b
  · exact .inr ⟨by simp [h], h⟩
  · exact .inl ⟨by simp [h], h⟩
abbrev signArr : Value := .agg #[.string ⟨#[60, 45, 62]⟩, .string ⟨#[45, 62]⟩, .string ⟨#[33]⟩, .string ⟨#[38]⟩, .string ⟨#[124]⟩, .string ⟨#[94]⟩, .string ⟨#[40]⟩, .string ⟨#[41]⟩, .string ⟨#[44]⟩]
set_option maxRecDepth 100000 in
set_option maxHeartbeats 4000000 in
theorem scan_any (s : ByteArray) (hs : s.size ≤ 5000) (w : World) :
    Calls Try.prog 42 #[.string s] w fun e w' => e = .returned (.string (str (scanL s.data.toList))) ∧ w = w' := by
  have i0 : ∀ w : World, (Instr.index 78 signArr (.int .i64 0)).run Try.prog w = .ok (.string ⟨#[60, 45, 62]⟩) w := fun _ => by kernel_rfl
  have i1 : ∀ w : World, (Instr.index 78 signArr (.int .i64 1)).run Try.prog w = .ok (.string ⟨#[45, 62]⟩) w := fun _ => by kernel_rfl
  have i2 : ∀ w : World, (Instr.index 78 signArr (.int .i64 2)).run Try.prog w = .ok (.string ⟨#[33]⟩) w := fun _ => by kernel_rfl
  have i3 : ∀ w : World, (Instr.index 78 signArr (.int .i64 3)).run Try.prog w = .ok (.string ⟨#[38]⟩) w := fun _ => by kernel_rfl
  have i4 : ∀ w : World, (Instr.index 78 signArr (.int .i64 4)).run Try.prog w = .ok (.string ⟨#[124]⟩) w := fun _ => by kernel_rfl
  have i5 : ∀ w : World, (Instr.index 78 signArr (.int .i64 5)).run Try.prog w = .ok (.string ⟨#[94]⟩) w := fun _ => by kernel_rfl
  have i6 : ∀ w : World, (Instr.index 78 signArr (.int .i64 6)).run Try.prog w = .ok (.string ⟨#[40]⟩) w := fun _ => by kernel_rfl
  have i7 : ∀ w : World, (Instr.index 78 signArr (.int .i64 7)).run Try.prog w = .ok (.string ⟨#[41]⟩) w := fun _ => by kernel_rfl
  have i8 : ∀ w : World, (Instr.index 78 signArr (.int .i64 8)).run Try.prog w = .ok (.string ⟨#[44]⟩) w := fun _ => by kernel_rfl
  go_enter Try.func42, Try.ntmps42
  go_wp2_with fail
  go_loop [8] (fun i => ∃ k : Nat, k ≤ 9 ∧ i = .int .i64 k ∧ noSign k s.data.toList) (fun i => 9 - (intOf i).toNat)
  case atStart => exact ⟨0, by omega, rfl, noSign_zero _⟩
  case round =>
    obtain ⟨k, hk, rfl, hno⟩ := hrel
    have HN := Lib.hid hno; clear hno
    by_cases h9 : k = 9
    · subst h9
      have HF := Lib.hid (find_none HN.out)
      by_cases h0 : s.size = 0
      · have HE := Lib.hid (scan_nil HF.out (List.eq_nil_of_length_eq_zero ((len_data s).trans h0)))
        have he : s.toList = [] := by rw [ByteArray.toList_eq]; exact List.eq_nil_of_length_eq_zero ((len_data s).trans h0)
        clear i0 i1 i2 i3 i4 i5 i6 i7 i8
        go_wp2_with fail
        go_ret
        exact ⟨ret_str (by rw [HE.out]; rfl), rfl⟩
      · have h1 : 0 < s.size := by omega
        have he : s.toList.isEmpty = false := by
          rw [ByteArray.toList_eq, ← Bool.not_eq_true, List.isEmpty_iff]; intro e; have := len_data s; rw [e] at this; simp at this; omega
        have hd := drop_cons s 0 h1
        rw [List.drop_zero] at hd
        have HD := Lib.hid hd; clear hd
        clear i0 i1 i2 i3 i4 i5 i6 i7 i8
        have h3 : s[0] = 48 ∨ s[0] ≠ 48 ∧ s[0] = 49 ∨ s[0] ≠ 48 ∧ s[0] ≠ 49 := by
          by_cases a : s[0] = 48
          · exact .inl a
          · by_cases b : s[0] = 49
            · exact .inr (.inl ⟨a, b⟩)
            · exact .inr (.inr ⟨a, b⟩)
        rcases h3 with hc | ⟨hc, hc'⟩ | ⟨hc, hc'⟩
        · have HS := Lib.hid (scan_digit HF.out HD.out (by rw [hc]; rfl))
          have HX : Hid (s.extract 0 1 = str [s[0]]) := by
            show _ = _
            rw [← str_data (s.extract 0 1), data_extract, List.drop_zero, HD.out]; rfl
          have b48 : ((s[0].toNat : Int) == 48) = true := by rw [hc]; rfl
          clear hc
          go_wp2_with fail
          go_ret
          exact ⟨ret_str (by rw [HS.out, HX.out]), rfl⟩
        · have HS := Lib.hid (scan_digit HF.out HD.out (by rw [hc']; rfl))
          have HX : Hid (s.extract 0 1 = str [s[0]]) := by
            show _ = _
            rw [← str_data (s.extract 0 1), data_extract, List.drop_zero, HD.out]; rfl
          have b48 : ((s[0].toNat : Int) == 48) = false := by rw [hc']; rfl
          have b49 : ((s[0].toNat : Int) == 49) = true := by rw [hc']; rfl
          clear hc hc'
          go_wp2_with fail
          go_ret
          exact ⟨ret_str (by rw [HS.out, HX.out]), rfl⟩
        · have hcf : (s[0] == 48 || s[0] == 49) = false := by simp [hc, hc']
          have HC := Lib.hid hcf; clear hcf
          have b48 : ((s[0].toNat : Int) == 48) = false := by
            rw [beq_eq_false_iff_ne]; intro e; apply hc; rw [← UInt8.toNat_inj]; show _ = 48; omega
          have b49 : ((s[0].toNat : Int) == 49) = false := by
            rw [beq_eq_false_iff_ne]; intro e; apply hc'; rw [← UInt8.toNat_inj]; show _ = 49; omega
          clear hc hc'
          go_wp2_with fail
          refine (letter_any s[0] _).mono ?_
          rintro e w1 ⟨rfl, rfl⟩
          cases hl : isLet s[0]
          · have HS := Lib.hid (scan_bad HF.out HD.out HC.out hl)
            clear hl
            go_wp2_with fail
            go_ret
            exact ⟨ret_str (by rw [HS.out]; rfl), rfl⟩
          · have HS := Lib.hid (scan_word HF.out HD.out HC.out hl)
            clear hl b48 b49 he
            go_wp2_with fail
            go_loop [5] (fun i => ∃ n : Nat, 1 ≤ n ∧ n ≤ s.size ∧ i = .int .i64 n ∧ (s.data.toList.drop 1).take (n - 1) ++ word (s.data.toList.drop n) = word (s.data.toList.drop 1)) (fun i => s.size - (intOf i).toNat)
            case atStart => exact ⟨1, by omega, by omega, rfl, by simp⟩
            case round =>
              obtain ⟨n, hn1, hn, rfl, hw⟩ := hrel
              have HW := Lib.hid hw; clear hw
              by_cases hlt : n < s.size
              · have HDn := Lib.hid (drop_cons s n hlt)
                go_wp2_with fail
                refine (letter_any s[n] _).mono ?_
                rintro e w1 ⟨rfl, rfl⟩
                cases hl : isLet s[n]
                · have HL := Lib.hid hl; clear hl
                  go_wp2_with fail
                  refine (number_any s[n] _).mono ?_
                  rintro e w1 ⟨rfl, rfl⟩
                  cases hm : isNum s[n]
                  · have HM := Lib.hid hm; clear hm
                    have HE : (s.data.toList.drop 1).take (n - 1) = word (s.data.toList.drop 1) := by
                      rw [← HW.out, HDn.out]; unfold word; rw [List.takeWhile_cons_of_neg (by rw [HL.out, HM.out]; simp)]; simp
                    have HX : Hid ((s.extract 0 n).data.toList = s[0] :: word (s.data.toList.drop 1)) := (data_extract s 0 n).trans (take_word HD.out hn1 HE)
                    have HT0 := HS.out
                    rw [show 0 + 1 = 1 from rfl, ← HX.out] at HT0
                    clear HE HX HW HS HDn
                    have HT := Lib.hid HT0
                    clear HT0
                    generalize hX : s.extract 0 n = X at *
                    rcases eq_or_ne2 X.toList [97, 108, 108] with ⟨ha, ha'⟩ | ⟨ha, ha'⟩
                    · rcases eq_or_ne2 X.toList [97, 110, 121] with ⟨hb, hb'⟩ | ⟨hb, hb'⟩
                      · rcases eq_or_ne2 X.toList [105, 116, 101] with ⟨hd, hd'⟩ | ⟨hd, hd'⟩
                        · go_wp2_with fail
                          refine (variable_any X _).mono ?_
                          rintro e w1 ⟨rfl, rfl⟩
                          cases hv : isVar X.data.toList
                          · go_wp2_with fail
                            go_ret
                            exact ⟨ret_str (by rw [HT.out, ← ByteArray.toList_eq, ha, hb, hd, ByteArray.toList_eq, hv]; rfl), rfl⟩
                          · go_wp2_with fail
                            go_ret
                            exact ⟨ret_str (by rw [HT.out, ← ByteArray.toList_eq, ha, hb, hd, ByteArray.toList_eq, hv]; exact (str_data X).symm), rfl⟩
                        · go_wp2_with fail
                          go_ret
                          exact ⟨ret_str (by rw [HT.out, ← ByteArray.toList_eq, ha, hb, hd, ByteArray.toList_eq]; exact (str_data X).symm), rfl⟩
                      · go_wp2_with fail
                        go_ret
                        exact ⟨ret_str (by rw [HT.out, ← ByteArray.toList_eq, ha, hb, ByteArray.toList_eq]; exact (str_data X).symm), rfl⟩
                    · go_wp2_with fail
                      go_ret
                      exact ⟨ret_str (by rw [HT.out, ← ByteArray.toList_eq, ha, ByteArray.toList_eq]; exact (str_data X).symm), rfl⟩
                  · have HM := Lib.hid hm; clear hm
                    go_wp2_with fail
                    go_round
                    case rel => exact ⟨n + 1, by omega, by omega, by go_num, word_more hn1 (HDn.out) (by rw [HL.out, HM.out]; rfl) HW.out⟩
                    case measure => simp [intOf]; omega
                · have HL := Lib.hid hl; clear hl
                  go_wp2_with fail
                  go_round
                  case rel => exact ⟨n + 1, by omega, by omega, by go_num, word_more hn1 (HDn.out) (by rw [HL.out]; rfl) HW.out⟩
                  case measure => simp [intOf]; omega
              · have HE : (s.data.toList.drop 1).take (n - 1) = word (s.data.toList.drop 1) := by
                  rw [← HW.out, List.drop_eq_nil_of_le (show s.data.toList.length ≤ n by rw [len_data]; omega)]; simp [word]
                have HDn := trivial
                have HX : Hid ((s.extract 0 n).data.toList = s[0] :: word (s.data.toList.drop 1)) := (data_extract s 0 n).trans (take_word HD.out hn1 HE)
                have HT0 := HS.out
                rw [show 0 + 1 = 1 from rfl, ← HX.out] at HT0
                clear HE HX HW HS HDn
                have HT := Lib.hid HT0
                clear HT0
                generalize hX : s.extract 0 n = X at *
                rcases eq_or_ne2 X.toList [97, 108, 108] with ⟨ha, ha'⟩ | ⟨ha, ha'⟩
                · rcases eq_or_ne2 X.toList [97, 110, 121] with ⟨hb, hb'⟩ | ⟨hb, hb'⟩
                  · rcases eq_or_ne2 X.toList [105, 116, 101] with ⟨hd, hd'⟩ | ⟨hd, hd'⟩
                    · go_wp2_with fail
                      refine (variable_any X _).mono ?_
                      rintro e w1 ⟨rfl, rfl⟩
                      cases hv : isVar X.data.toList
                      · go_wp2_with fail
                        go_ret
                        exact ⟨ret_str (by rw [HT.out, ← ByteArray.toList_eq, ha, hb, hd, ByteArray.toList_eq, hv]; rfl), rfl⟩
                      · go_wp2_with fail
                        go_ret
                        exact ⟨ret_str (by rw [HT.out, ← ByteArray.toList_eq, ha, hb, hd, ByteArray.toList_eq, hv]; exact (str_data X).symm), rfl⟩
                    · go_wp2_with fail
                      go_ret
                      exact ⟨ret_str (by rw [HT.out, ← ByteArray.toList_eq, ha, hb, hd, ByteArray.toList_eq]; exact (str_data X).symm), rfl⟩
                  · go_wp2_with fail
                    go_ret
                    exact ⟨ret_str (by rw [HT.out, ← ByteArray.toList_eq, ha, hb, ByteArray.toList_eq]; exact (str_data X).symm), rfl⟩
                · go_wp2_with fail
                  go_ret
                  exact ⟨ret_str (by rw [HT.out, ← ByteArray.toList_eq, ha, ByteArray.toList_eq]; exact (str_data X).symm), rfl⟩
    · have h9' : k = 0 ∨ k = 1 ∨ k = 2 ∨ k = 3 ∨ k = 4 ∨ k = 5 ∨ k = 6 ∨ k = 7 ∨ k = 8 := by omega
      rcases h9' with rfl | rfl | rfl | rfl | rfl | rfl | rfl | rfl | rfl
      · go_wp2_with fail
        refine (hasPrefix_any s _ (by omega) (by decide) _).mono ?_
        rintro e w1 ⟨rfl, rfl⟩
        cases hp : List.isPrefixOf [60, 45, 62] s.data.toList
        · have HP := Lib.hid hp
          go_wp2_with fail
          go_round
          case rel => exact ⟨0+1, by omega, by go_num, noSign_succ HN.out rfl HP.out⟩
          case measure => simp [intOf]
        · have HP := Lib.hid hp
          go_wp2_with fail
          go_ret
          exact ⟨ret_str (by rw [scan_sign HN.out rfl HP.out]; rfl), rfl⟩
      · go_wp2_with fail
        refine (hasPrefix_any s _ (by omega) (by decide) _).mono ?_
        rintro e w1 ⟨rfl, rfl⟩
        cases hp : List.isPrefixOf [45, 62] s.data.toList
        · have HP := Lib.hid hp
          go_wp2_with fail
          go_round
          case rel => exact ⟨1+1, by omega, by go_num, noSign_succ HN.out rfl HP.out⟩
          case measure => simp [intOf]
        · have HP := Lib.hid hp
          go_wp2_with fail
          go_ret
          exact ⟨ret_str (by rw [scan_sign HN.out rfl HP.out]; rfl), rfl⟩
      · go_wp2_with fail
        refine (hasPrefix_any s _ (by omega) (by decide) _).mono ?_
        rintro e w1 ⟨rfl, rfl⟩
        cases hp : List.isPrefixOf [33] s.data.toList
        · have HP := Lib.hid hp
          go_wp2_with fail
          go_round
          case rel => exact ⟨2+1, by omega, by go_num, noSign_succ HN.out rfl HP.out⟩
          case measure => simp [intOf]
        · have HP := Lib.hid hp
          go_wp2_with fail
          go_ret
          exact ⟨ret_str (by rw [scan_sign HN.out rfl HP.out]; rfl), rfl⟩
      · go_wp2_with fail
        refine (hasPrefix_any s _ (by omega) (by decide) _).mono ?_
        rintro e w1 ⟨rfl, rfl⟩
        cases hp : List.isPrefixOf [38] s.data.toList
        · have HP := Lib.hid hp
          go_wp2_with fail
          go_round
          case rel => exact ⟨3+1, by omega, by go_num, noSign_succ HN.out rfl HP.out⟩
          case measure => simp [intOf]
        · have HP := Lib.hid hp
          go_wp2_with fail
          go_ret
          exact ⟨ret_str (by rw [scan_sign HN.out rfl HP.out]; rfl), rfl⟩
      · go_wp2_with fail
        refine (hasPrefix_any s _ (by omega) (by decide) _).mono ?_
        rintro e w1 ⟨rfl, rfl⟩
        cases hp : List.isPrefixOf [124] s.data.toList
        · have HP := Lib.hid hp
          go_wp2_with fail
          go_round
          case rel => exact ⟨4+1, by omega, by go_num, noSign_succ HN.out rfl HP.out⟩
          case measure => simp [intOf]
        · have HP := Lib.hid hp
          go_wp2_with fail
          go_ret
          exact ⟨ret_str (by rw [scan_sign HN.out rfl HP.out]; rfl), rfl⟩
      · go_wp2_with fail
        refine (hasPrefix_any s _ (by omega) (by decide) _).mono ?_
        rintro e w1 ⟨rfl, rfl⟩
        cases hp : List.isPrefixOf [94] s.data.toList
        · have HP := Lib.hid hp
          go_wp2_with fail
          go_round
          case rel => exact ⟨5+1, by omega, by go_num, noSign_succ HN.out rfl HP.out⟩
          case measure => simp [intOf]
        · have HP := Lib.hid hp
          go_wp2_with fail
          go_ret
          exact ⟨ret_str (by rw [scan_sign HN.out rfl HP.out]; rfl), rfl⟩
      · go_wp2_with fail
        refine (hasPrefix_any s _ (by omega) (by decide) _).mono ?_
        rintro e w1 ⟨rfl, rfl⟩
        cases hp : List.isPrefixOf [40] s.data.toList
        · have HP := Lib.hid hp
          go_wp2_with fail
          go_round
          case rel => exact ⟨6+1, by omega, by go_num, noSign_succ HN.out rfl HP.out⟩
          case measure => simp [intOf]
        · have HP := Lib.hid hp
          go_wp2_with fail
          go_ret
          exact ⟨ret_str (by rw [scan_sign HN.out rfl HP.out]; rfl), rfl⟩
      · go_wp2_with fail
        refine (hasPrefix_any s _ (by omega) (by decide) _).mono ?_
        rintro e w1 ⟨rfl, rfl⟩
        cases hp : List.isPrefixOf [41] s.data.toList
        · have HP := Lib.hid hp
          go_wp2_with fail
          go_round
          case rel => exact ⟨7+1, by omega, by go_num, noSign_succ HN.out rfl HP.out⟩
          case measure => simp [intOf]
        · have HP := Lib.hid hp
          go_wp2_with fail
          go_ret
          exact ⟨ret_str (by rw [scan_sign HN.out rfl HP.out]; rfl), rfl⟩
      · go_wp2_with fail
        refine (hasPrefix_any s _ (by omega) (by decide) _).mono ?_
        rintro e w1 ⟨rfl, rfl⟩
        cases hp : List.isPrefixOf [44] s.data.toList
        · have HP := Lib.hid hp
          go_wp2_with fail
          go_round
          case rel => exact ⟨8+1, by omega, by go_num, noSign_succ HN.out rfl HP.out⟩
          case measure => simp [intOf]
        · have HP := Lib.hid hp
          go_wp2_with fail
          go_ret
          exact ⟨ret_str (by rw [scan_sign HN.out rfl HP.out]; rfl), rfl⟩
end Go.Proofs.Ytmjpecjciibngaa
namespace Go.Proofs.Ytmjpecjciibngaa
open Go.RowKit
set_option linter.unusedVariables false

abbrev pcells (s t : Bs) (a d e ea : Nat) : Array Value := #[.string (str s), .string (str t), .int .i64 (a : Int), .int .i64 (d : Int), .int .i64 (e : Int), .int .i64 (ea : Int)]
def blanks (l : Bs) : Nat := (l.takeWhile isBlank).length
theorem six {w : World} {g : Nat} {t : TypeId} {a b c d e f : Value} (h : Blk w g t #[a, b, c, d, e, f]) :
    (w.cell? ⟨g, 0, none⟩ = some a ∧ w.cell? ⟨g, 1, none⟩ = some b ∧ w.cell? ⟨g, 2, none⟩ = some c ∧ w.cell? ⟨g, 3, none⟩ = some d ∧ w.cell? ⟨g, 4, none⟩ = some e ∧ w.cell? ⟨g, 5, none⟩ = some f) ∧
    (w.frozen? ⟨g, 0, none⟩ = false ∧ w.frozen? ⟨g, 1, none⟩ = false ∧ w.frozen? ⟨g, 2, none⟩ = false ∧ w.frozen? ⟨g, 3, none⟩ = false ∧ w.frozen? ⟨g, 4, none⟩ = false ∧ w.frozen? ⟨g, 5, none⟩ = false) :=
  ⟨⟨h.cell 0, h.cell 1, h.cell 2, h.cell 3, h.cell 4, h.cell 5⟩, h.free 0, h.free 1, h.free 2, h.free 3, h.free 4, h.free 5⟩
theorem getElem_str (s : Bs) (k : Nat) (h : k < s.length) (h' : k < (str s).size) : (str s)[k]'h' = s[k] := rfl
theorem blank_cases (c : UInt8) : (isBlank c = true ∧ c = 32) ∨ (isBlank c = true ∧ c ≠ 32 ∧ c = 9) ∨ (isBlank c = true ∧ c ≠ 32 ∧ c ≠ 9 ∧ c = 10) ∨ (isBlank c = false ∧ c ≠ 32 ∧ c ≠ 9 ∧ c ≠ 10) := by
  unfold isBlank
  by_cases h1 : c = 32
  · simp [h1]
  · by_cases h2 : c = 9
    · simp [h2]
    · by_cases h3 : c = 10
      · simp [h3]
      · simp [h1, h2, h3]
theorem byte_ne {c d : UInt8} (h : c ≠ d) : ((c.toNat : Int) == (d.toNat : Int)) = false := by
  rw [beq_eq_false_iff_ne]; intro e; apply h; rw [← UInt8.toNat_inj]; omega
theorem byte_eq {c d : UInt8} (h : c = d) : ((c.toNat : Int) == (d.toNat : Int)) = true := by subst h; simp

theorem drop_at {s : Bs} {n : Nat} (h : n < s.length) : s.drop n = s[n] :: s.drop (n + 1) := List.drop_eq_getElem_cons h
theorem blanks_yes {s : Bs} {n : Nat} (h : n < s.length) (hb : isBlank s[n] = true) : n + blanks (s.drop n) = n + 1 + blanks (s.drop (n + 1)) := by
  rw [drop_at h]; unfold blanks; rw [List.takeWhile_cons_of_pos hb, List.length_cons]; omega
theorem blanks_no {s : Bs} {n : Nat} (h : n < s.length) (hb : isBlank s[n] = false) : n + blanks (s.drop n) = n := by
  rw [drop_at h]; unfold blanks; rw [List.takeWhile_cons_of_neg (by simp [hb])]; rfl
theorem blanks_end {s : Bs} {n : Nat} (h : s.length ≤ n) : n + blanks (s.drop n) = n := by
  rw [List.drop_eq_nil_of_le h]; rfl
set_option maxRecDepth 100000 in
set_option maxHeartbeats 2000000 in
theorem goes_raw (b : Nat) (s t : Bs) (a d e ea : Nat) (w : World) (hs : s.length ≤ 4000) (ht : a + t.length ≤ s.length) (hB : Blk w b 62 (pcells s t a d e ea)) :
    Calls Try.prog 30 #[.pointer (some ⟨b, 0, none⟩)] w fun e' w' => e' = .returned (.tuple #[]) ∧ w.grownBy w' (some b) ∧
      Blk w' b 62 (pcells s (scanL (s.drop (a + t.length + blanks (s.drop (a + t.length))))) (a + t.length + blanks (s.drop (a + t.length))) d e ea) := by
  have hz : (str s).size = s.length := size_str s
  have hzt : (str t).size = t.length := size_str t
  obtain ⟨⟨c0, c1, c2, c3, c4, c5⟩, f0, f1, f2, f3, f4, f5⟩ := six hB
  have HB := Lib.hid hB; clear hB
  clear f0 f3 f4 f5 c3 c4 c5
  go_enter Try.func30, Try.ntmps30
  go_wp2_with fail
  go_quiet (fail)
  go_wp2_with fail
  generalize hN : a + t.length + blanks (s.drop (a + t.length)) = N
  have HN := Lib.hid hN; clear hN
  go_loop [2] (fun i => ∃ n : Nat, a + t.length ≤ n ∧ n ≤ s.length ∧ i = .int .i64 n ∧ n + blanks (s.drop n) = N) (fun i => s.length - (intOf i).toNat)
  case atStart => exact ⟨a + t.length, by omega, by omega, by go_num, HN.out⟩
  case round =>
    obtain ⟨n, hn1, hn, rfl, hb⟩ := hrel
    have HBl := Lib.hid hb; clear hb
    by_cases hlt : n < s.length
    · have hgt : n < (str s).size := by omega
      have hc := getElem_str s n hlt hgt
      have HC := Lib.hid hc; clear hc
      rcases blank_cases s[n] with ⟨k, h1⟩ | ⟨k, h1, h2⟩ | ⟨k, h1, h2, h3⟩ | ⟨k, h1, h2, h3⟩
      · have e1 : (((str s)[n].toNat : Int) == 32) = true := byte_eq (d := 32) (HC.out.trans h1)
        have HK := Lib.hid k
        clear h1 k
        go_wp2_with fail
        go_round
        case rel => exact ⟨n + 1, by omega, by omega, by go_num, (blanks_yes hlt HK.out).symm.trans HBl.out⟩
        case measure => simp [intOf]; omega
      · have e1 : (((str s)[n].toNat : Int) == 32) = false := byte_ne (d := 32) (fun e => h1 (HC.out.symm.trans e))
        have e2 : (((str s)[n].toNat : Int) == 9) = true := byte_eq (d := 9) (HC.out.trans h2)
        have HK := Lib.hid k
        clear h1 h2 k
        go_wp2_with fail
        go_round
        case rel => exact ⟨n + 1, by omega, by omega, by go_num, (blanks_yes hlt HK.out).symm.trans HBl.out⟩
        case measure => simp [intOf]; omega
      · have e1 : (((str s)[n].toNat : Int) == 32) = false := byte_ne (d := 32) (fun e => h1 (HC.out.symm.trans e))
        have e2 : (((str s)[n].toNat : Int) == 9) = false := byte_ne (d := 9) (fun e => h2 (HC.out.symm.trans e))
        have e3 : (((str s)[n].toNat : Int) == 10) = true := byte_eq (d := 10) (HC.out.trans h3)
        have HK := Lib.hid k
        clear h1 h2 h3 k
        go_wp2_with fail
        go_round
        case rel => exact ⟨n + 1, by omega, by omega, by go_num, (blanks_yes hlt HK.out).symm.trans HBl.out⟩
        case measure => simp [intOf]; omega
      · have e1 : (((str s)[n].toNat : Int) == 32) = false := byte_ne (d := 32) (fun e => h1 (HC.out.symm.trans e))
        have e2 : (((str s)[n].toNat : Int) == 9) = false := byte_ne (d := 9) (fun e => h2 (HC.out.symm.trans e))
        have e3 : (((str s)[n].toNat : Int) == 10) = false := byte_ne (d := 10) (fun e => h3 (HC.out.symm.trans e))
        have hnN : n = N := (blanks_no hlt k).symm.trans HBl.out
        have HnN := Lib.hid hnN
        clear h1 h2 h3 k hnN
        have HX : Hid ((((str s).extract n s.length).data.toList) = s.drop n) := by
          show _ = _
          rw [data_extract, data_str, List.take_of_length_le (by rw [List.length_drop]; omega)]
        have HY : Hid (List.take (s.length - n) (List.drop n (str s).data.toList) = s.drop n) := by
          show _ = _
          rw [data_str, List.take_of_length_le (by rw [List.length_drop]; omega)]
        go_wp2_with fail
        refine (scan_any _ ?_ _).mono ?_
        · rw [← len_data, HX.out, List.length_drop]; omega
        rintro e w1 ⟨rfl, rfl⟩
        go_wp2_with fail
        go_end0
        refine ⟨rfl, grown_at (grown_at (grown_below ((Below.refl _ _).drewN _) _) _ _) _ _, ?_⟩
        rw [HY.out, HN.out, ← HnN.out]
        exact ((HB.out.drewN nq).set 1 _).set 2 _
    · have hnN : n = N := (blanks_end (by omega)).symm.trans HBl.out
      have HnN := Lib.hid hnN
      clear hnN
      have HX : Hid ((((str s).extract n s.length).data.toList) = s.drop n) := by
        show _ = _
        rw [data_extract, data_str, List.take_of_length_le (by rw [List.length_drop]; omega)]
      have HY : Hid (List.take (s.length - n) (List.drop n (str s).data.toList) = s.drop n) := by
        show _ = _
        rw [data_str, List.take_of_length_le (by rw [List.length_drop]; omega)]
      go_wp2_with fail
      refine (scan_any _ ?_ _).mono ?_
      · rw [← len_data, HX.out, List.length_drop]; omega
      rintro e w1 ⟨rfl, rfl⟩
      go_wp2_with fail
      go_end0
      refine ⟨rfl, grown_at (grown_at (grown_below ((Below.refl _ _).drewN _) _) _ _) _ _, ?_⟩
      rw [HY.out, HN.out, ← HnN.out]
      exact ((HB.out.drewN nq).set 1 _).set 2 _
end Go.Proofs.Ytmjpecjciibngaa
namespace Go.Proofs.Ytmjpecjciibngaa
open Go.RowKit
set_option linter.unusedVariables false

theorem find_prefix {L : List Bs} {l t : Bs} (h : L.find? (fun k => k.isPrefixOf l) = some t) : t <+: l := by
  have := List.find?_some h
  exact List.isPrefixOf_iff_prefix.1 this
theorem scan_prefix {l : Bs} (h : scanL l ≠ [63]) : scanL l <+: l := by
  unfold scanL at h ⊢
  split at h
  · rename_i k hk; exact find_prefix hk
  · rename_i hk
    cases l with
    | nil => exact List.nil_prefix
    | cons c r =>
      simp only at h ⊢
      split
      · exact ⟨r, rfl⟩
      · split
        · rename_i h1 h2; rw [if_neg h1, if_pos h2] at h; exact absurd rfl h
        · split
          · exact List.cons_prefix_cons.2 ⟨rfl, List.takeWhile_prefix _⟩
          · rename_i h1 h2 h3; rw [if_neg h1, if_neg h2, if_neg h3] at h; exact absurd rfl h

theorem lexL_fuel : ∀ (n m : Nat) (l : Bs) (a : Nat), l.length < n → l.length < m → lexL n l a = lexL m l a := by
  intro n
  induction n with
  | zero => intro m l a h; omega
  | succ n ih =>
    intro m l a hn hm
    cases m with
    | zero => omega
    | succ m =>
      simp only [lexL]
      split
      · rfl
      · rename_i hg
        congr 1
        simp only [Bool.or_eq_true, beq_iff_eq, not_or] at hg
        have hp := (scan_prefix hg.2).length_le
        have h1 : 1 ≤ (scanL (l.drop (l.takeWhile isBlank).length)).length := by
          cases e : scanL (l.drop (l.takeWhile isBlank).length) with
          | nil => exact absurd e hg.1
          | cons _ _ => simp
        have hb := (List.takeWhile_prefix isBlank (l := l)).length_le
        rw [List.length_drop] at hp
        exact ih m _ _ (by simp only [List.length_drop]; omega) (by simp only [List.length_drop]; omega)

def good (t : Bs) : Prop := t ≠ [] ∧ t ≠ [63]
theorem lex_facts {s : Bs} {pos : Nat} (hp : pos ≤ s.length) :
    ∃ a, a = pos + blanks (s.drop pos) ∧ a ≤ s.length ∧ (lexFrom s pos).headD ([], 0) = (scanL (s.drop a), a) ∧ lexFrom s pos ≠ [] ∧
      (good (scanL (s.drop a)) → 1 ≤ (scanL (s.drop a)).length ∧ a + (scanL (s.drop a)).length ≤ s.length ∧ (lexFrom s pos).tail = lexFrom s (a + (scanL (s.drop a)).length)) := by
  have hb := (List.takeWhile_prefix isBlank (l := s.drop pos)).length_le
  rw [List.length_drop] at hb
  have hd : (s.drop pos).drop (blanks (s.drop pos)) = s.drop (pos + blanks (s.drop pos)) := by rw [List.drop_drop]
  refine ⟨_, rfl, by unfold blanks; omega, ?_⟩
  unfold blanks at *
  have key : lexFrom s pos = if (scanL (s.drop (pos + ((s.drop pos).takeWhile isBlank).length)) == [] || scanL (s.drop (pos + ((s.drop pos).takeWhile isBlank).length)) == [63]) = true then [(scanL (s.drop (pos + ((s.drop pos).takeWhile isBlank).length)), pos + ((s.drop pos).takeWhile isBlank).length)]
      else (scanL (s.drop (pos + ((s.drop pos).takeWhile isBlank).length)), pos + ((s.drop pos).takeWhile isBlank).length) ::
        lexL s.length ((s.drop (pos + ((s.drop pos).takeWhile isBlank).length)).drop (scanL (s.drop (pos + ((s.drop pos).takeWhile isBlank).length))).length) (pos + ((s.drop pos).takeWhile isBlank).length + (scanL (s.drop (pos + ((s.drop pos).takeWhile isBlank).length))).length) := by
    unfold lexFrom
    simp only [lexL]
    rw [hd]
  rw [key]
  by_cases hg : (scanL (s.drop (pos + ((s.drop pos).takeWhile isBlank).length)) == [] || scanL (s.drop (pos + ((s.drop pos).takeWhile isBlank).length)) == [63]) = true
  · rw [if_pos hg]
    refine ⟨rfl, by simp, fun h => ?_⟩
    simp only [Bool.or_eq_true, beq_iff_eq] at hg
    rcases hg with h1 | h1
    · exact absurd h1 h.1
    · exact absurd h1 h.2
  · rw [if_neg hg]
    refine ⟨rfl, by simp, fun h => ?_⟩
    have hl := (scan_prefix h.2).length_le
    rw [List.length_drop] at hl
    have h1 : 1 ≤ (scanL (s.drop (pos + ((s.drop pos).takeWhile isBlank).length))).length := by
      cases e : scanL (s.drop (pos + ((s.drop pos).takeWhile isBlank).length)) with
      | nil => exact absurd e h.1
      | cons _ _ => simp
    refine ⟨h1, by omega, ?_⟩
    rw [List.tail_cons, List.drop_drop]
    have hlen := List.length_drop (i := pos + ((s.drop pos).takeWhile isBlank).length + (scanL (s.drop (pos + ((s.drop pos).takeWhile isBlank).length))).length) (l := s)
    refine lexL_fuel _ _ _ _ ?_ ?_
    · rw [hlen]; omega
    · rw [hlen]; omega

/-- The reader p over the text s lies in block b. -/
structure PM (w : World) (b : Nat) (s : Bs) (p : PS) : Prop where
  blk : Blk w b 62 (pcells s p.hd.1 p.at_ p.depth p.e p.eat)
  lex : ∃ pos, pos ≤ s.length ∧ p.toks = lexFrom s pos
theorem PM.at_le {w : World} {b : Nat} {s : Bs} {p : PS} (h : PM w b s p) : p.at_ ≤ s.length := by
  obtain ⟨pos, hp, e⟩ := h.lex
  obtain ⟨a, _, ha, hh, _⟩ := lex_facts hp
  unfold PS.at_ PS.hd
  rw [e, hh]; exact ha
theorem PM.keep {w w' : World} {b : Nat} {s : Bs} {p : PS} (h : PM w b s p) (hb : Below w.heap.size w w') : PM w' b s p := ⟨h.blk.keep hb, h.lex⟩
theorem PM.drew {w : World} {b : Nat} {s : Bs} {p : PS} (h : PM w b s p) : PM w.drew b s p := ⟨h.blk.drew, h.lex⟩
theorem PM.grown {w w' : World} {b : Nat} {s : Bs} {p : PS} {row : Option Nat} (h : PM w b s p) (hb : w.grownBy w' row) (hr : some b ≠ row) : PM w' b s p := ⟨h.blk.grown hb hr, h.lex⟩

theorem goes_any (b : Nat) (s : Bs) (p : PS) (w : World) (hs : s.length ≤ 4000) (hP : PM w b s p) (hg : good p.hd.1) :
    Calls Try.prog 30 #[.pointer (some ⟨b, 0, none⟩)] w fun e' w' => e' = .returned (.tuple #[]) ∧ w.grownBy w' (some b) ∧ PM w' b s p.goes := by
  obtain ⟨hB, pos, hpos, e⟩ := hP
  obtain ⟨a, ha, hle, hh, hne, hgd⟩ := lex_facts hpos
  have h1 : p.hd = (scanL (s.drop a), a) := by unfold PS.hd; rw [e]; exact hh
  have hat : p.at_ = a := by unfold PS.at_; rw [h1]
  have ht : p.hd.1 = scanL (s.drop a) := by rw [h1]
  rw [ht] at hg hB
  rw [hat] at hB
  obtain ⟨g1, g2, g3⟩ := hgd hg
  refine (goes_raw b s _ a p.depth p.e p.eat w hs g2 hB).mono ?_
  rintro e' w' ⟨rfl, hgr, hB'⟩
  refine ⟨rfl, hgr, ?_, a + (scanL (s.drop a)).length, g2, ?_⟩
  · obtain ⟨a', ha', _, hh', _⟩ := lex_facts g2
    have h2 : p.goes.hd = (scanL (s.drop a'), a') := by unfold PS.hd PS.goes; simp only; rw [e, g3]; exact hh'
    unfold PS.at_
    rw [h2]
    rw [← ha'] at hB'
    exact hB'
  · unfold PS.goes; simp only; rw [e, g3]

set_option maxRecDepth 100000 in
theorem bad_any (b : Nat) (s : Bs) (p : PS) (e1 : Nat) (w : World) (hP : PM w b s p) :
    Calls Try.prog 32 #[.pointer (some ⟨b, 0, none⟩), .int .i64 (e1 : Int)] w fun e' w' => e' = .returned (.tuple #[]) ∧ w.grownBy w' (some b) ∧ PM w' b s (p.bad e1) := by
  obtain ⟨⟨c0, c1, c2, c3, c4, c5⟩, f0, f1, f2, f3, f4, f5⟩ := six hP.blk
  by_cases he : p.e = 0
  · have HP := Lib.hid hP; clear hP
    rw [he] at c4
    have hb : p.bad e1 = { p with e := e1, eat := p.at_ } := by unfold PS.bad; rw [if_pos he]
    have Hb := Lib.hid hb; clear hb he
    go_enter Try.func32, Try.ntmps32
    go_wp2_with fail
    go_end0
    refine ⟨rfl, grown_at (grown_at (World.grownBy.refl _ _) _ _) _ _, ?_⟩
    rw [Hb.out]
    exact ⟨(HP.out.blk.set 4 _).set 5 _, HP.out.lex⟩
  · have HP := Lib.hid hP; clear hP
    have hb : p.bad e1 = p := by unfold PS.bad; rw [if_neg he]
    have Hb := Lib.hid hb; clear hb
    have h0 : ((p.e : Int) == 0) = false := by simp; omega
    go_enter Try.func32, Try.ntmps32
    go_wp2_with fail
    go_end0
    refine ⟨rfl, World.grownBy.refl _ _, ?_⟩
    rw [Hb.out]
    exact HP.out
end Go.Proofs.Ytmjpecjciibngaa
namespace Go.Proofs.Ytmjpecjciibngaa
open Go.RowKit
set_option linter.unusedVariables false

theorem toList_str (l : Bs) : (str l).toList = l := by rw [ByteArray.toList_eq, data_str]

set_option maxRecDepth 100000 in
theorem may_any (b : Nat) (s : Bs) (p : PS) (t : Bs) (w : World) (hs : s.length ≤ 4000) (hP : PM w b s p) (ht : good t) :
    Calls Try.prog 61 #[.pointer (some ⟨b, 0, none⟩), .string (str t)] w fun e' w' => e' = .returned (.bool (p.may t).1) ∧ w.grownBy w' (some b) ∧ PM w' b s (p.may t).2 := by
  obtain ⟨⟨c0, c1, c2, c3, c4, c5⟩, f0, f1, f2, f3, f4, f5⟩ := six hP.blk
  clear f0 f1 f2 f3 f4 f5 c0 c2 c3 c5
  by_cases he : p.e = 0
  · by_cases hh : p.hd.1 = t
    · have hm : p.may t = (true, p.goes) := by unfold PS.may; rw [if_pos ⟨he, hh⟩]
      have hg : good p.hd.1 := hh ▸ ht
      have Hm := Lib.hid hm
      have Hg := Lib.hid hg
      have HP := Lib.hid hP
      rw [he] at c4
      rw [hh] at c1
      clear hP hm hg he hh
      go_enter Try.func61, Try.ntmps61
      go_wp2_with fail
      refine (goes_any b s p _ hs HP.out Hg.out).mono ?_
      rintro e' w1 ⟨rfl, hgr, hP1⟩
      have HP1 := Lib.hid hP1; clear hP1
      go_wp2_with fail
      go_ret
      rw [Hm.out]
      exact ⟨rfl, hgr, HP1.out⟩
    · have hm : p.may t = (false, p) := by unfold PS.may; rw [if_neg (fun h => hh h.2)]
      have Hm := Lib.hid hm
      have HP := Lib.hid hP
      have h1 : ¬ (str p.hd.1).toList = (str t).toList := by rw [toList_str, toList_str]; exact hh
      have h2 : ((str p.hd.1).toList == (str t).toList) = false := by simp [h1]
      rw [he] at c4
      clear hP hm he hh
      go_enter Try.func61, Try.ntmps61
      go_wp2_with fail
      go_ret
      rw [Hm.out]
      exact ⟨rfl, World.grownBy.refl _ _, HP.out⟩
  · have hm : p.may t = (false, p) := by unfold PS.may; rw [if_neg (fun h => he h.1)]
    have Hm := Lib.hid hm
    have HP := Lib.hid hP
    have h0 : ((p.e : Int) != 0) = true := by rw [bne_iff_ne]; omega
    have h0' : ((p.e : Int) == 0) = false := by simp; omega
    clear hP hm
    go_enter Try.func61, Try.ntmps61
    go_wp2_with fail
    go_ret
    rw [Hm.out]
    exact ⟨rfl, World.grownBy.refl _ _, HP.out⟩

theorem must_any (b : Nat) (s : Bs) (p : PS) (t : Bs) (w : World) (hs : s.length ≤ 4000) (hP : PM w b s p) (ht : good t) :
    Calls Try.prog 90 #[.pointer (some ⟨b, 0, none⟩), .string (str t)] w fun e' w' => e' = .returned (.tuple #[]) ∧ w.grownBy w' (some b) ∧ PM w' b s (p.must t) := by
  have hm : p.must t = if (p.may t).1 then (p.may t).2 else (p.may t).2.bad 230 := rfl
  have Hm := Lib.hid hm
  have HP := Lib.hid hP
  clear hP hm
  go_enter Try.func90, Try.ntmps90
  go_wp2_with fail
  refine (may_any b s p t _ hs HP.out ht).mono ?_
  rintro e' w1 ⟨rfl, hgr, hP1⟩
  have HP1 := Lib.hid hP1; clear hP1
  cases hb : (p.may t).1
  · have Hb := Lib.hid hb; clear hb
    go_wp2_with fail
    refine (bad_any b s (p.may t).2 230 _ HP1.out).mono ?_
    rintro e' w2 ⟨rfl, hgr2, hP2⟩
    have HP2 := Lib.hid hP2; clear hP2
    go_wp2_with fail
    go_end0
    rw [Hm.out, Hb.out]
    exact ⟨rfl, grown_trans hgr hgr2, HP2.out⟩
  · have Hb := Lib.hid hb; clear hb
    go_wp2_with fail
    go_end0
    rw [Hm.out, Hb.out]
    exact ⟨rfl, hgr, HP1.out⟩
end Go.Proofs.Ytmjpecjciibngaa
namespace Go.Proofs.Ytmjpecjciibngaa
open Go.RowKit
set_option linter.unusedVariables false

mutual
/-- The value x is the formula, whose lists lie in blocks that ok lets. -/
def ExprV (ok : Nat → Prop) (w : World) : Tree → Value → Prop
  | .node k a v kids, x => ∃ A cap, x = .agg #[.int .i64 k, .int .i64 a, .int .i64 v, .slice A kids.length cap] ∧ KidsV ok w kids A 0
def KidsV (ok : Nat → Prop) (w : World) : List Tree → Option Addr → Nat → Prop
  | [], _, _ => True
  | t :: ts, A, i => (∃ ad c0 c1 c2 c3, A = some ad ∧ ok ad.block ∧ w.cell? (ad.add (i * 4)) = some c0 ∧ w.cell? (ad.add (i * 4 + 1)) = some c1 ∧ w.cell? (ad.add (i * 4 + 2)) = some c2 ∧ w.cell? (ad.add (i * 4 + 3)) = some c3 ∧
      ExprV ok w t (.agg #[c0, c1, c2, c3])) ∧ KidsV ok w ts A (i + 1)
end

theorem add_block (a : Addr) (n : Nat) : (a.add n).block = a.block := by unfold Addr.add; split <;> rfl

mutual
theorem ExprV.of_cells {ok : Nat → Prop} {w w' : World} (h : ∀ p v, ok p.block → w.cell? p = some v → w'.cell? p = some v) : ∀ (t : Tree) (x : Value), ExprV ok w t x → ExprV ok w' t x
  | .node k a v kids, x, hx => by
    unfold ExprV at hx ⊢
    obtain ⟨A, cap, e, hk⟩ := hx
    exact ⟨A, cap, e, KidsV.of_cells h kids A 0 hk⟩
theorem KidsV.of_cells {ok : Nat → Prop} {w w' : World} (h : ∀ p v, ok p.block → w.cell? p = some v → w'.cell? p = some v) : ∀ (ts : List Tree) (A : Option Addr) (i : Nat), KidsV ok w ts A i → KidsV ok w' ts A i
  | [], A, i, _ => by unfold KidsV; trivial
  | t :: ts, A, i, hx => by
    unfold KidsV at hx ⊢
    obtain ⟨⟨ad, c0, c1, c2, c3, e, hb, h0, h1, h2, h3, hE⟩, hr⟩ := hx
    refine ⟨⟨ad, c0, c1, c2, c3, e, hb, h _ _ ?_ h0, h _ _ ?_ h1, h _ _ ?_ h2, h _ _ ?_ h3, ExprV.of_cells h t _ hE⟩, KidsV.of_cells h ts A (i + 1) hr⟩ <;> rw [add_block] <;> exact hb
end
mutual
theorem ExprV.mono {ok ok' : Nat → Prop} {w : World} (h : ∀ g, g < w.heap.size → ok g → ok' g) : ∀ (t : Tree) (x : Value), ExprV ok w t x → ExprV ok' w t x
  | .node k a v kids, x, hx => by
    unfold ExprV at hx ⊢
    obtain ⟨A, cap, e, hk⟩ := hx
    exact ⟨A, cap, e, KidsV.mono h kids A 0 hk⟩
theorem KidsV.mono {ok ok' : Nat → Prop} {w : World} (h : ∀ g, g < w.heap.size → ok g → ok' g) : ∀ (ts : List Tree) (A : Option Addr) (i : Nat), KidsV ok w ts A i → KidsV ok' w ts A i
  | [], A, i, _ => by unfold KidsV; trivial
  | t :: ts, A, i, hx => by
    unfold KidsV at hx ⊢
    obtain ⟨⟨ad, c0, c1, c2, c3, e, hb, h0, h1, h2, h3, hE⟩, hr⟩ := hx
    have hlt := World.block_lt_of_cell? _ _ h0
    rw [add_block] at hlt
    exact ⟨⟨ad, c0, c1, c2, c3, e, h _ hlt hb, h0, h1, h2, h3, ExprV.mono h t _ hE⟩, KidsV.mono h ts A (i + 1) hr⟩
end
theorem ExprV.keep {ok : Nat → Prop} {w w' : World} {t : Tree} {x : Value} (h : ExprV ok w t x) (hb : Below w.heap.size w w') : ExprV ok w' t x :=
  ExprV.of_cells (fun p v _ hc => (hb.cell (World.block_lt_of_cell? _ _ hc)).trans hc) t x h
theorem ExprV.grown {ok : Nat → Prop} {w w' : World} {t : Tree} {x : Value} {row : Option Nat} (h : ExprV ok w t x) (hb : w.grownBy w' row) (hr : ∀ g, row = some g → ¬ ok g) : ExprV ok w' t x :=
  ExprV.of_cells (fun p v hlo hc => hb.cell hc (fun e => hr _ e.symm hlo)) t x h
theorem ExprV.drew {ok : Nat → Prop} {w : World} {t : Tree} {x : Value} (h : ExprV ok w t x) : ExprV ok w.drew t x := ExprV.of_cells (w := w) (w' := w.drew) (fun p v _ hc => hc) t x h
theorem ExprV.drewN {ok : Nat → Prop} {w : World} {t : Tree} {x : Value} (h : ExprV ok w t x) (n : Nat) : ExprV ok (w.drewN n) t x := ExprV.of_cells (w := w) (w' := w.drewN n) (fun p v _ hc => hc) t x h
theorem ExprV.alloc {ok : Nat → Prop} {w : World} {t : Tree} {x : Value} (h : ExprV ok w t x) (o : Obj) : ExprV ok (w.alloc o) t x := h.keep (below1 w o)
theorem ExprV.setCell {ok : Nat → Prop} {w : World} {t : Tree} {x : Value} (h : ExprV ok w t x) {p : Addr} (hp : ¬ ok p.block) (u : Value) : ExprV ok (w.setCell p u) t x :=
  ExprV.of_cells (fun q v hlo hc => (World.cell?_setCell_other w p q u (fun e => by subst e; exact hp hlo)).trans hc) t x h
/-- A value of four cells. -/
theorem ExprV.four {ok : Nat → Prop} {w : World} {t : Tree} {x : Value} (h : ExprV ok w t x) : ∃ (k a v : Int) (A : Option Addr) (n cap : Nat), x = .agg #[.int .i64 k, .int .i64 a, .int .i64 v, .slice A n cap] := by
  cases t
  unfold ExprV at h
  obtain ⟨A, cap, e, _⟩ := h
  exact ⟨_, _, _, _, _, _, e⟩
abbrev zeroExpr : Array Value := #[.int .i64 0, .int .i64 0, .int .i64 0, .slice none 0 0]
theorem ExprV.zero (ok : Nat → Prop) (w : World) : ExprV ok w Tree.zero (.agg zeroExpr) := by
  unfold Tree.zero ExprV
  exact ⟨none, 0, rfl, by unfold KidsV; trivial⟩
theorem ExprV.leaf (ok : Nat → Prop) (w : World) (k a v : Int) : ExprV ok w (.node k a v []) (.agg #[.int .i64 k, .int .i64 a, .int .i64 v, .slice none 0 0]) := by
  unfold ExprV
  exact ⟨none, 0, rfl, by unfold KidsV; trivial⟩
theorem ExprV.one {ok : Nat → Prop} {w : World} {t1 : Tree} {a0 a1 a2 a3 : Value} {g : Nat} {T : TypeId} (h1 : ExprV ok w t1 (.agg #[a0, a1, a2, a3])) (hg : ok g) (hB : Blk w g T #[a0, a1, a2, a3]) (k a v : Int) (cap : Nat) :
    ExprV ok w (.node k a v [t1]) (.agg #[.int .i64 k, .int .i64 a, .int .i64 v, .slice (some ⟨g, 0, none⟩) 1 cap]) := by
  unfold ExprV
  refine ⟨_, cap, rfl, ?_⟩
  unfold KidsV
  refine ⟨⟨_, _, _, _, _, rfl, hg, hB.cell 0, hB.cell 1, hB.cell 2, hB.cell 3, h1⟩, by unfold KidsV; trivial⟩
theorem ExprV.two {ok : Nat → Prop} {w : World} {t1 t2 : Tree} {a0 a1 a2 a3 b0 b1 b2 b3 : Value} {g : Nat} {T : TypeId} (h1 : ExprV ok w t1 (.agg #[a0, a1, a2, a3])) (h2 : ExprV ok w t2 (.agg #[b0, b1, b2, b3])) (hg : ok g)
    (hB : Blk w g T #[a0, a1, a2, a3, b0, b1, b2, b3]) (k a v : Int) (cap : Nat) :
    ExprV ok w (.node k a v [t1, t2]) (.agg #[.int .i64 k, .int .i64 a, .int .i64 v, .slice (some ⟨g, 0, none⟩) 2 cap]) := by
  unfold ExprV
  refine ⟨_, cap, rfl, ?_⟩
  unfold KidsV
  refine ⟨⟨_, _, _, _, _, rfl, hg, hB.cell 0, hB.cell 1, hB.cell 2, hB.cell 3, h1⟩, ?_⟩
  unfold KidsV
  refine ⟨⟨_, _, _, _, _, rfl, hg, hB.cell 4, hB.cell 5, hB.cell 6, hB.cell 7, h2⟩, by unfold KidsV; trivial⟩
/-- A formula that lies in a block is what the function returns. -/
theorem ret_expr {fn : Func} {R : Ending → World → Prop} {a : Act} {w : World} {p : Tmp} (hr : fn.results = #[.cell p 36]) (g : Nat) (c0 c1 c2 c3 : Value)
    (hp : a.tmps.getD p undef = .pointer (some ⟨g, 0, none⟩)) (hd : a.defers = []) (hg : Blk w g 36 #[c0, c1, c2, c3]) (hR : R (.returned (.agg #[c0, c1, c2, c3])) w) : bodyPost Try.prog fn R .ret a w :=
  bodyPost_ret (results_cell_row hr _ _ g 36 #[c0, c1, c2, c3] (0, 0) _ hp hg Try.underlying36 rfl (by kernel_rfl)) hd hR

theorem heap_put4 {w : World} {g k : Nat} (hk : k ≠ g) (x y z u : Value) :
    ((((w.setCell ⟨g, 0, none⟩ x).setCell ⟨g, 1, none⟩ y).setCell ⟨g, 2, none⟩ z).setCell ⟨g, 3, none⟩ u).heap[k]? = w.heap[k]? := by
  rw [Below.heap_setCell _ _ _ _ hk, Below.heap_setCell _ _ _ _ hk, Below.heap_setCell _ _ _ _ hk, Below.heap_setCell _ _ _ _ hk]
theorem grown_fresh4 {a w : World} {row : Option Nat} {g : Nat} (h : a.grownBy w row) (hg : a.heap.size ≤ g) (x y z u : Value) :
    a.grownBy ((((w.setCell ⟨g, 0, none⟩ x).setCell ⟨g, 1, none⟩ y).setCell ⟨g, 2, none⟩ z).setCell ⟨g, 3, none⟩ u) row :=
  ⟨h.os, h.tape, h.output, by simpa [World.setCell] using h.size, fun i hi hne => (heap_put4 (by omega) x y z u).trans (h.block i hi hne)⟩
theorem PM.put4 {w : World} {b : Nat} {s : Bs} {p : PS} {g : Nat} (h : PM w b s p) (hg : b ≠ g) (x y z u : Value) :
    PM ((((w.setCell ⟨g, 0, none⟩ x).setCell ⟨g, 1, none⟩ y).setCell ⟨g, 2, none⟩ z).setCell ⟨g, 3, none⟩ u) b s p := ⟨(heap_put4 hg x y z u).trans h.blk, h.lex⟩
theorem ExprV.put4 {ok : Nat → Prop} {w : World} {t : Tree} {v : Value} {g : Nat} (h : ExprV ok w t v) (hg : ¬ ok g) (x y z u : Value) :
    ExprV ok ((((w.setCell ⟨g, 0, none⟩ x).setCell ⟨g, 1, none⟩ y).setCell ⟨g, 2, none⟩ z).setCell ⟨g, 3, none⟩ u) t v :=
  (((h.setCell (p := ⟨g, 0, none⟩) hg x).setCell (p := ⟨g, 1, none⟩) hg y).setCell (p := ⟨g, 2, none⟩) hg z).setCell (p := ⟨g, 3, none⟩) hg u
theorem Blk.other4 {w : World} {g k : Nat} {t : TypeId} {cs : Array Value} (h : Blk w k t cs) (hk : k ≠ g) (x y z u : Value) :
    Blk ((((w.setCell ⟨g, 0, none⟩ x).setCell ⟨g, 1, none⟩ y).setCell ⟨g, 2, none⟩ z).setCell ⟨g, 3, none⟩ u) k t cs := (heap_put4 hk x y z u).trans h
/-- What a reader's function must do. -/
def Does (f : FuncId) (R : Rd) (s : Bs) (d : Nat) : Prop :=
  ∀ (w : World) (b : Nat) (p : PS), PM w b s p → p.depth = d → Calls Try.prog f #[.pointer (some ⟨b, 0, none⟩)] w fun e' w' =>
    ∃ x, e' = .returned x ∧ ExprV (fun g => w.heap.size ≤ g) w' (R p).1 x ∧ w.grownBy w' (some b) ∧ PM w' b s (R p).2
end Go.Proofs.Ytmjpecjciibngaa
