/- HasPrefix and scan. -/
import Derived.Test.YtmjpecjciibngaaLex1
namespace Go.Proofs.Ytmjpecjciibngaa
open Go.RowKit
set_option linter.unusedVariables false

theorem str_data (s : ByteArray) : str s.data.toList = s := by cases s; rfl
theorem data_str (l : Bs) : (str l).data.toList = l := by simp [str]
theorem str_inj {a b : Bs} (h : str a = str b) : a = b := by
  have := congrArg (fun s : ByteArray => s.data.toList) h
  simpa [str] using this
theorem size_str (l : Bs) : (str l).size = l.length := by simp [str, ByteArray.size]
theorem data_extract (s : ByteArray) (a b : Nat) : (s.extract a b).data.toList = (s.data.toList.drop a).take (b - a) := by
  rw [ByteArray.data_extract, Array.toList_extract]
theorem len_data (s : ByteArray) : s.data.toList.length = s.size := by rw [Array.length_toList]; rfl
theorem drop_cons (s : ByteArray) (k : Nat) (h : k < s.size) : s.data.toList.drop k = s[k] :: s.data.toList.drop (k + 1) := by
  rw [List.drop_eq_getElem_cons (by rw [len_data]; exact h)]
  rfl
theorem ret_str {a b : ByteArray} (h : a = b) : Ending.returned (.string a) = .returned (.string b) := by rw [h]
theorem isPrefixOf_take (p s : Bs) : (s.take p.length == p) = p.isPrefixOf s := by
  induction p generalizing s with
  | nil => simp
  | cons a p ih =>
    cases s with
    | nil => simp
    | cons b s =>
      simp only [List.length_cons, List.take_succ_cons, List.isPrefixOf_cons_cons, ← ih s]
      rw [List.cons_beq_cons]
      congr 1
      exact Bool.beq_comm
theorem isPrefixOf_len {p s : Bs} (h : ¬ p.length ≤ s.length) : p.isPrefixOf s = false := by
  cases e : p.isPrefixOf s
  · rfl
  · have := (List.isPrefixOf_iff_prefix.1 e).length_le; omega

theorem hasPrefix2_any (s p : ByteArray) (hs : s.size ≤ 140737488351232) (hp : p.size ≤ 140737488351232) (w : World) :
    Calls Try.prog 76 #[.string s, .string p] w fun e w' => e = .returned (.bool (p.data.toList.isPrefixOf s.data.toList)) ∧ w = w' := by
  by_cases h : p.size ≤ s.size
  · have H : Hid (((s.extract 0 p.size).toList == p.toList) = p.data.toList.isPrefixOf s.data.toList) := by
      show _ = _
      rw [ByteArray.toList_eq, ByteArray.toList_eq, data_extract, ← isPrefixOf_take]
      rw [List.drop_zero, Nat.sub_zero, len_data]
    go_enter Try.func76, Try.ntmps76
    go_wp2
    go_ret
    exact ⟨ret_bool H.out, rfl⟩
  · have H : Hid (p.data.toList.isPrefixOf s.data.toList = false) := isPrefixOf_len (by rw [len_data, len_data]; exact h)
    go_enter Try.func76, Try.ntmps76
    go_wp2
    go_ret
    exact ⟨ret_bool H.out.symm, rfl⟩
theorem hasPrefix_any (s p : ByteArray) (hs : s.size ≤ 140737488351232) (hp : p.size ≤ 140737488351232) (w : World) :
    Calls Try.prog 57 #[.string s, .string p] w fun e w' => e = .returned (.bool (p.data.toList.isPrefixOf s.data.toList)) ∧ w = w' := by
  go_enter Try.func57, Try.ntmps57
  go_wp2_with fail
  refine (hasPrefix2_any s p hs hp _).mono ?_
  rintro e w1 ⟨rfl, rfl⟩
  go_wp2_with fail
  go_ret
  exact ⟨ret_bool (List.isPrefixOf_toArray ..) , rfl⟩

/-- None of the first k signs begins the text. -/
def noSign (k : Nat) (l : Bs) : Prop := ∀ j, j < k → ∀ t, signs[j]? = some t → t.isPrefixOf l = false
theorem noSign_zero (l : Bs) : noSign 0 l := fun j hj => absurd hj (by omega)
theorem noSign_succ {k : Nat} {l t : Bs} (h : noSign k l) (ht : signs[k]? = some t) (hn : t.isPrefixOf l = false) : noSign (k + 1) l := by
  intro j hj u hu
  by_cases e : j = k
  · subst e; rw [ht] at hu; cases hu; exact hn
  · exact h j (by omega) u hu
theorem find_of {L : List Bs} {k : Nat} {l t : Bs} (h : ∀ j, j < k → ∀ t, L[j]? = some t → t.isPrefixOf l = false) (ht : L[k]? = some t) (hp : t.isPrefixOf l = true) : L.find? (fun k => k.isPrefixOf l) = some t := by
  induction L generalizing k with
  | nil => simp at ht
  | cons a L ih =>
    cases k with
    | zero => simp at ht; subst ht; simp [hp]
    | succ k =>
      have h0 := h 0 (by omega) a (by simp)
      rw [List.find?_cons_of_neg (by simp [h0])]
      exact ih (k := k) (fun j hj t ht => h (j + 1) (by omega) t (by simpa using ht)) (by simpa using ht)
theorem scan_sign {k : Nat} {l t : Bs} (h : noSign k l) (ht : signs[k]? = some t) (hp : t.isPrefixOf l = true) : scanL l = t := by
  unfold scanL
  rw [find_of h ht hp]
theorem find_none {l : Bs} (h : noSign 9 l) : signs.find? (fun k => k.isPrefixOf l) = none := by
  rw [List.find?_eq_none]
  intro x hx
  obtain ⟨j, hj, rfl⟩ := List.getElem_of_mem hx
  have := h j (by simpa [signs] using hj) _ (List.getElem?_eq_getElem hj)
  simp [this]

theorem scan_nil {l : Bs} (h : signs.find? (fun k => k.isPrefixOf l) = none) (e : l = []) : scanL l = [] := by
  unfold scanL; rw [h]; subst e; rfl
theorem scan_digit {l r : Bs} {c : UInt8} (h : signs.find? (fun k => k.isPrefixOf l) = none) (e : l = c :: r) (hc : (c == 48 || c == 49) = true) : scanL l = [c] := by
  unfold scanL; rw [h]; subst e; simp only; rw [if_pos hc]
theorem scan_bad {l r : Bs} {c : UInt8} (h : signs.find? (fun k => k.isPrefixOf l) = none) (e : l = c :: r) (hc : (c == 48 || c == 49) = false) (hl : isLet c = false) : scanL l = [63] := by
  unfold scanL; rw [h]; subst e; simp only; rw [if_neg (by simp [hc]), if_pos (by simp [hl])]
theorem scan_word {l r : Bs} {c : UInt8} (h : signs.find? (fun k => k.isPrefixOf l) = none) (e : l = c :: r) (hc : (c == 48 || c == 49) = false) (hl : isLet c = true) :
    scanL l = if c :: word r == [97, 108, 108] || (c :: word r == [97, 110, 121] || (c :: word r == [105, 116, 101] || isVar (c :: word r))) then c :: word r else [63] := by
  unfold scanL; rw [h]; subst e; simp only; rw [if_neg (by simp [hc]), if_neg (by simp [hl])]
theorem word_more {l : Bs} {n : Nat} {c : UInt8} (hn : 1 ≤ n) (hd : l.drop n = c :: l.drop (n + 1)) (hc : (isLet c || isNum c) = true) (h : (l.drop 1).take (n - 1) ++ word (l.drop n) = word (l.drop 1)) :
    (l.drop 1).take (n + 1 - 1) ++ word (l.drop (n + 1)) = word (l.drop 1) := by
  rw [← h, hd]
  unfold word
  rw [List.takeWhile_cons_of_pos (by exact hc)]
  have e : (l.drop 1)[n - 1]? = some c := by
    rw [List.getElem?_drop, show 1 + (n - 1) = n by omega, ← List.head?_drop, hd]; rfl
  rw [show n + 1 - 1 = (n - 1) + 1 by omega, List.take_add_one, e]
  simp
theorem take_word {l : Bs} {c : UInt8} {n : Nat} {W : Bs} (hd : l = c :: l.drop (0 + 1)) (hn : 1 ≤ n) (h : (l.drop 1).take (n - 1) = W) : (l.drop 0).take (n - 0) = c :: W := by
  obtain ⟨m, rfl⟩ : ∃ m, n = m + 1 := ⟨n - 1, by omega⟩
  cases l with
  | nil => cases hd
  | cons a r =>
    simp only [List.drop_succ_cons, List.drop_zero, List.cons.injEq] at hd
    rw [← h, ← hd.1]; rfl
theorem eq_or_ne2 (a b : Bs) : ((a == b) = false ∧ ¬ a = b) ∨ ((a == b) = true ∧ a = b) := by
  by_cases h : a = b
  · exact .inr ⟨by simp [h], h⟩
  · exact .inl ⟨by simp [h], h⟩
abbrev signArr : Value := .agg #[.string ⟨#[60, 45, 62]⟩, .string ⟨#[45, 62]⟩, .string ⟨#[33]⟩, .string ⟨#[38]⟩, .string ⟨#[124]⟩, .string ⟨#[94]⟩, .string ⟨#[40]⟩, .string ⟨#[41]⟩, .string ⟨#[44]⟩]
set_option maxRecDepth 100000 in
set_option maxHeartbeats 4000000 in
theorem scan_any (s : ByteArray) (hs : s.size ≤ 5000) (w : World) :
    Calls Try.prog 42 #[.string s] w fun e w' => e = .returned (.string (str (scanL s.data.toList))) ∧ w = w' := by
  have i0 : ∀ w : World, (Instr.index 78 signArr (.int .i64 0)).run Try.prog w = .ok (.string ⟨#[60, 45, 62]⟩) w := fun _ => by kernel_rfl
  have i1 : ∀ w : World, (Instr.index 78 signArr (.int .i64 1)).run Try.prog w = .ok (.string ⟨#[45, 62]⟩) w := fun _ => by kernel_rfl
  have i2 : ∀ w : World, (Instr.index 78 signArr (.int .i64 2)).run Try.prog w = .ok (.string ⟨#[33]⟩) w := fun _ => by kernel_rfl
  have i3 : ∀ w : World, (Instr.index 78 signArr (.int .i64 3)).run Try.prog w = .ok (.string ⟨#[38]⟩) w := fun _ => by kernel_rfl
  have i4 : ∀ w : World, (Instr.index 78 signArr (.int .i64 4)).run Try.prog w = .ok (.string ⟨#[124]⟩) w := fun _ => by kernel_rfl
  have i5 : ∀ w : World, (Instr.index 78 signArr (.int .i64 5)).run Try.prog w = .ok (.string ⟨#[94]⟩) w := fun _ => by kernel_rfl
  have i6 : ∀ w : World, (Instr.index 78 signArr (.int .i64 6)).run Try.prog w = .ok (.string ⟨#[40]⟩) w := fun _ => by kernel_rfl
  have i7 : ∀ w : World, (Instr.index 78 signArr (.int .i64 7)).run Try.prog w = .ok (.string ⟨#[41]⟩) w := fun _ => by kernel_rfl
  have i8 : ∀ w : World, (Instr.index 78 signArr (.int .i64 8)).run Try.prog w = .ok (.string ⟨#[44]⟩) w := fun _ => by kernel_rfl
  go_enter Try.func42, Try.ntmps42
  go_wp2_with fail
  go_loop [8] (fun i => ∃ k : Nat, k ≤ 9 ∧ i = .int .i64 k ∧ noSign k s.data.toList) (fun i => 9 - (intOf i).toNat)
  case atStart => exact ⟨0, by omega, rfl, noSign_zero _⟩
  case round =>
    obtain ⟨k, hk, rfl, hno⟩ := hrel
    have HN := Lib.hid hno; clear hno
    by_cases h9 : k = 9
    · subst h9
      have HF := Lib.hid (find_none HN.out)
      by_cases h0 : s.size = 0
      · have HE := Lib.hid (scan_nil HF.out (List.eq_nil_of_length_eq_zero ((len_data s).trans h0)))
        have he : s.toList = [] := by rw [ByteArray.toList_eq]; exact List.eq_nil_of_length_eq_zero ((len_data s).trans h0)
        clear i0 i1 i2 i3 i4 i5 i6 i7 i8
        go_wp2_with fail
        go_ret
        exact ⟨ret_str (by rw [HE.out]; rfl), rfl⟩
      · have h1 : 0 < s.size := by omega
        have he : s.toList.isEmpty = false := by
          rw [ByteArray.toList_eq, ← Bool.not_eq_true, List.isEmpty_iff]; intro e; have := len_data s; rw [e] at this; simp at this; omega
        have hd := drop_cons s 0 h1
        rw [List.drop_zero] at hd
        have HD := Lib.hid hd; clear hd
        clear i0 i1 i2 i3 i4 i5 i6 i7 i8
        have h3 : s[0] = 48 ∨ s[0] ≠ 48 ∧ s[0] = 49 ∨ s[0] ≠ 48 ∧ s[0] ≠ 49 := by
          by_cases a : s[0] = 48
          · exact .inl a
          · by_cases b : s[0] = 49
            · exact .inr (.inl ⟨a, b⟩)
            · exact .inr (.inr ⟨a, b⟩)
        rcases h3 with hc | ⟨hc, hc'⟩ | ⟨hc, hc'⟩
        · have HS := Lib.hid (scan_digit HF.out HD.out (by rw [hc]; rfl))
          have HX : Hid (s.extract 0 1 = str [s[0]]) := by
            show _ = _
            rw [← str_data (s.extract 0 1), data_extract, List.drop_zero, HD.out]; rfl
          have b48 : ((s[0].toNat : Int) == 48) = true := by rw [hc]; rfl
          clear hc
          go_wp2_with fail
          go_ret
          exact ⟨ret_str (by rw [HS.out, HX.out]), rfl⟩
        · have HS := Lib.hid (scan_digit HF.out HD.out (by rw [hc']; rfl))
          have HX : Hid (s.extract 0 1 = str [s[0]]) := by
            show _ = _
            rw [← str_data (s.extract 0 1), data_extract, List.drop_zero, HD.out]; rfl
          have b48 : ((s[0].toNat : Int) == 48) = false := by rw [hc']; rfl
          have b49 : ((s[0].toNat : Int) == 49) = true := by rw [hc']; rfl
          clear hc hc'
          go_wp2_with fail
          go_ret
          exact ⟨ret_str (by rw [HS.out, HX.out]), rfl⟩
        · have hcf : (s[0] == 48 || s[0] == 49) = false := by simp [hc, hc']
          have HC := Lib.hid hcf; clear hcf
          have b48 : ((s[0].toNat : Int) == 48) = false := by
            rw [beq_eq_false_iff_ne]; intro e; apply hc; rw [← UInt8.toNat_inj]; show _ = 48; omega
          have b49 : ((s[0].toNat : Int) == 49) = false := by
            rw [beq_eq_false_iff_ne]; intro e; apply hc'; rw [← UInt8.toNat_inj]; show _ = 49; omega
          clear hc hc'
          go_wp2_with fail
          refine (letter_any s[0] _).mono ?_
          rintro e w1 ⟨rfl, rfl⟩
          cases hl : isLet s[0]
          · have HS := Lib.hid (scan_bad HF.out HD.out HC.out hl)
            clear hl
            go_wp2_with fail
            go_ret
            exact ⟨ret_str (by rw [HS.out]; rfl), rfl⟩
          · have HS := Lib.hid (scan_word HF.out HD.out HC.out hl)
            clear hl b48 b49 he
            go_wp2_with fail
            go_loop [5] (fun i => ∃ n : Nat, 1 ≤ n ∧ n ≤ s.size ∧ i = .int .i64 n ∧ (s.data.toList.drop 1).take (n - 1) ++ word (s.data.toList.drop n) = word (s.data.toList.drop 1)) (fun i => s.size - (intOf i).toNat)
            case atStart => exact ⟨1, by omega, by omega, rfl, by simp⟩
            case round =>
              obtain ⟨n, hn1, hn, rfl, hw⟩ := hrel
              have HW := Lib.hid hw; clear hw
              by_cases hlt : n < s.size
              · have HDn := Lib.hid (drop_cons s n hlt)
                go_wp2_with fail
                refine (letter_any s[n] _).mono ?_
                rintro e w1 ⟨rfl, rfl⟩
                cases hl : isLet s[n]
                · have HL := Lib.hid hl; clear hl
                  go_wp2_with fail
                  refine (number_any s[n] _).mono ?_
                  rintro e w1 ⟨rfl, rfl⟩
                  cases hm : isNum s[n]
                  · have HM := Lib.hid hm; clear hm
                    have HE : (s.data.toList.drop 1).take (n - 1) = word (s.data.toList.drop 1) := by
                      rw [← HW.out, HDn.out]; unfold word; rw [List.takeWhile_cons_of_neg (by rw [HL.out, HM.out]; simp)]; simp
                    have HX : Hid ((s.extract 0 n).data.toList = s[0] :: word (s.data.toList.drop 1)) := (data_extract s 0 n).trans (take_word HD.out hn1 HE)
                    have HT0 := HS.out
                    rw [show 0 + 1 = 1 from rfl, ← HX.out] at HT0
                    clear HE HX HW HS HDn
                    have HT := Lib.hid HT0
                    clear HT0
                    generalize hX : s.extract 0 n = X at *
                    rcases eq_or_ne2 X.toList [97, 108, 108] with ⟨ha, ha'⟩ | ⟨ha, ha'⟩
                    · rcases eq_or_ne2 X.toList [97, 110, 121] with ⟨hb, hb'⟩ | ⟨hb, hb'⟩
                      · rcases eq_or_ne2 X.toList [105, 116, 101] with ⟨hd, hd'⟩ | ⟨hd, hd'⟩
                        · go_wp2_with fail
                          refine (variable_any X _).mono ?_
                          rintro e w1 ⟨rfl, rfl⟩
                          cases hv : isVar X.data.toList
                          · go_wp2_with fail
                            go_ret
                            exact ⟨ret_str (by rw [HT.out, ← ByteArray.toList_eq, ha, hb, hd, ByteArray.toList_eq, hv]; rfl), rfl⟩
                          · go_wp2_with fail
                            go_ret
                            exact ⟨ret_str (by rw [HT.out, ← ByteArray.toList_eq, ha, hb, hd, ByteArray.toList_eq, hv]; exact (str_data X).symm), rfl⟩
                        · go_wp2_with fail
                          go_ret
                          exact ⟨ret_str (by rw [HT.out, ← ByteArray.toList_eq, ha, hb, hd, ByteArray.toList_eq]; exact (str_data X).symm), rfl⟩
                      · go_wp2_with fail
                        go_ret
                        exact ⟨ret_str (by rw [HT.out, ← ByteArray.toList_eq, ha, hb, ByteArray.toList_eq]; exact (str_data X).symm), rfl⟩
                    · go_wp2_with fail
                      go_ret
                      exact ⟨ret_str (by rw [HT.out, ← ByteArray.toList_eq, ha, ByteArray.toList_eq]; exact (str_data X).symm), rfl⟩
                  · have HM := Lib.hid hm; clear hm
                    go_wp2_with fail
                    go_round
                    case rel => exact ⟨n + 1, by omega, by omega, by go_num, word_more hn1 (HDn.out) (by rw [HL.out, HM.out]; rfl) HW.out⟩
                    case measure => simp [intOf]; omega
                · have HL := Lib.hid hl; clear hl
                  go_wp2_with fail
                  go_round
                  case rel => exact ⟨n + 1, by omega, by omega, by go_num, word_more hn1 (HDn.out) (by rw [HL.out]; rfl) HW.out⟩
                  case measure => simp [intOf]; omega
              · have HE : (s.data.toList.drop 1).take (n - 1) = word (s.data.toList.drop 1) := by
                  rw [← HW.out, List.drop_eq_nil_of_le (show s.data.toList.length ≤ n by rw [len_data]; omega)]; simp [word]
                have HDn := trivial
                have HX : Hid ((s.extract 0 n).data.toList = s[0] :: word (s.data.toList.drop 1)) := (data_extract s 0 n).trans (take_word HD.out hn1 HE)
                have HT0 := HS.out
                rw [show 0 + 1 = 1 from rfl, ← HX.out] at HT0
                clear HE HX HW HS HDn
                have HT := Lib.hid HT0
                clear HT0
                generalize hX : s.extract 0 n = X at *
                rcases eq_or_ne2 X.toList [97, 108, 108] with ⟨ha, ha'⟩ | ⟨ha, ha'⟩
                · rcases eq_or_ne2 X.toList [97, 110, 121] with ⟨hb, hb'⟩ | ⟨hb, hb'⟩
                  · rcases eq_or_ne2 X.toList [105, 116, 101] with ⟨hd, hd'⟩ | ⟨hd, hd'⟩
                    · go_wp2_with fail
                      refine (variable_any X _).mono ?_
                      rintro e w1 ⟨rfl, rfl⟩
                      cases hv : isVar X.data.toList
                      · go_wp2_with fail
                        go_ret
                        exact ⟨ret_str (by rw [HT.out, ← ByteArray.toList_eq, ha, hb, hd, ByteArray.toList_eq, hv]; rfl), rfl⟩
                      · go_wp2_with fail
                        go_ret
                        exact ⟨ret_str (by rw [HT.out, ← ByteArray.toList_eq, ha, hb, hd, ByteArray.toList_eq, hv]; exact (str_data X).symm), rfl⟩
                    · go_wp2_with fail
                      go_ret
                      exact ⟨ret_str (by rw [HT.out, ← ByteArray.toList_eq, ha, hb, hd, ByteArray.toList_eq]; exact (str_data X).symm), rfl⟩
                  · go_wp2_with fail
                    go_ret
                    exact ⟨ret_str (by rw [HT.out, ← ByteArray.toList_eq, ha, hb, ByteArray.toList_eq]; exact (str_data X).symm), rfl⟩
                · go_wp2_with fail
                  go_ret
                  exact ⟨ret_str (by rw [HT.out, ← ByteArray.toList_eq, ha, ByteArray.toList_eq]; exact (str_data X).symm), rfl⟩
    · have h9' : k = 0 ∨ k = 1 ∨ k = 2 ∨ k = 3 ∨ k = 4 ∨ k = 5 ∨ k = 6 ∨ k = 7 ∨ k = 8 := by omega
      rcases h9' with rfl | rfl | rfl | rfl | rfl | rfl | rfl | rfl | rfl
      · go_wp2_with fail
        refine (hasPrefix_any s _ (by omega) (by decide) _).mono ?_
        rintro e w1 ⟨rfl, rfl⟩
        cases hp : List.isPrefixOf [60, 45, 62] s.data.toList
        · have HP := Lib.hid hp
          go_wp2_with fail
          go_round
          case rel => exact ⟨0+1, by omega, by go_num, noSign_succ HN.out rfl HP.out⟩
          case measure => simp [intOf]
        · have HP := Lib.hid hp
          go_wp2_with fail
          go_ret
          exact ⟨ret_str (by rw [scan_sign HN.out rfl HP.out]; rfl), rfl⟩
      · go_wp2_with fail
        refine (hasPrefix_any s _ (by omega) (by decide) _).mono ?_
        rintro e w1 ⟨rfl, rfl⟩
        cases hp : List.isPrefixOf [45, 62] s.data.toList
        · have HP := Lib.hid hp
          go_wp2_with fail
          go_round
          case rel => exact ⟨1+1, by omega, by go_num, noSign_succ HN.out rfl HP.out⟩
          case measure => simp [intOf]
        · have HP := Lib.hid hp
          go_wp2_with fail
          go_ret
          exact ⟨ret_str (by rw [scan_sign HN.out rfl HP.out]; rfl), rfl⟩
      · go_wp2_with fail
        refine (hasPrefix_any s _ (by omega) (by decide) _).mono ?_
        rintro e w1 ⟨rfl, rfl⟩
        cases hp : List.isPrefixOf [33] s.data.toList
        · have HP := Lib.hid hp
          go_wp2_with fail
          go_round
          case rel => exact ⟨2+1, by omega, by go_num, noSign_succ HN.out rfl HP.out⟩
          case measure => simp [intOf]
        · have HP := Lib.hid hp
          go_wp2_with fail
          go_ret
          exact ⟨ret_str (by rw [scan_sign HN.out rfl HP.out]; rfl), rfl⟩
      · go_wp2_with fail
        refine (hasPrefix_any s _ (by omega) (by decide) _).mono ?_
        rintro e w1 ⟨rfl, rfl⟩
        cases hp : List.isPrefixOf [38] s.data.toList
        · have HP := Lib.hid hp
          go_wp2_with fail
          go_round
          case rel => exact ⟨3+1, by omega, by go_num, noSign_succ HN.out rfl HP.out⟩
          case measure => simp [intOf]
        · have HP := Lib.hid hp
          go_wp2_with fail
          go_ret
          exact ⟨ret_str (by rw [scan_sign HN.out rfl HP.out]; rfl), rfl⟩
      · go_wp2_with fail
        refine (hasPrefix_any s _ (by omega) (by decide) _).mono ?_
        rintro e w1 ⟨rfl, rfl⟩
        cases hp : List.isPrefixOf [124] s.data.toList
        · have HP := Lib.hid hp
          go_wp2_with fail
          go_round
          case rel => exact ⟨4+1, by omega, by go_num, noSign_succ HN.out rfl HP.out⟩
          case measure => simp [intOf]
        · have HP := Lib.hid hp
          go_wp2_with fail
          go_ret
          exact ⟨ret_str (by rw [scan_sign HN.out rfl HP.out]; rfl), rfl⟩
      · go_wp2_with fail
        refine (hasPrefix_any s _ (by omega) (by decide) _).mono ?_
        rintro e w1 ⟨rfl, rfl⟩
        cases hp : List.isPrefixOf [94] s.data.toList
        · have HP := Lib.hid hp
          go_wp2_with fail
          go_round
          case rel => exact ⟨5+1, by omega, by go_num, noSign_succ HN.out rfl HP.out⟩
          case measure => simp [intOf]
        · have HP := Lib.hid hp
          go_wp2_with fail
          go_ret
          exact ⟨ret_str (by rw [scan_sign HN.out rfl HP.out]; rfl), rfl⟩
      · go_wp2_with fail
        refine (hasPrefix_any s _ (by omega) (by decide) _).mono ?_
        rintro e w1 ⟨rfl, rfl⟩
        cases hp : List.isPrefixOf [40] s.data.toList
        · have HP := Lib.hid hp
          go_wp2_with fail
          go_round
          case rel => exact ⟨6+1, by omega, by go_num, noSign_succ HN.out rfl HP.out⟩
          case measure => simp [intOf]
        · have HP := Lib.hid hp
          go_wp2_with fail
          go_ret
          exact ⟨ret_str (by rw [scan_sign HN.out rfl HP.out]; rfl), rfl⟩
      · go_wp2_with fail
        refine (hasPrefix_any s _ (by omega) (by decide) _).mono ?_
        rintro e w1 ⟨rfl, rfl⟩
        cases hp : List.isPrefixOf [41] s.data.toList
        · have HP := Lib.hid hp
          go_wp2_with fail
          go_round
          case rel => exact ⟨7+1, by omega, by go_num, noSign_succ HN.out rfl HP.out⟩
          case measure => simp [intOf]
        · have HP := Lib.hid hp
          go_wp2_with fail
          go_ret
          exact ⟨ret_str (by rw [scan_sign HN.out rfl HP.out]; rfl), rfl⟩
      · go_wp2_with fail
        refine (hasPrefix_any s _ (by omega) (by decide) _).mono ?_
        rintro e w1 ⟨rfl, rfl⟩
        cases hp : List.isPrefixOf [44] s.data.toList
        · have HP := Lib.hid hp
          go_wp2_with fail
          go_round
          case rel => exact ⟨8+1, by omega, by go_num, noSign_succ HN.out rfl HP.out⟩
          case measure => simp [intOf]
        · have HP := Lib.hid hp
          go_wp2_with fail
          go_ret
          exact ⟨ret_str (by rw [scan_sign HN.out rfl HP.out]; rfl), rfl⟩
end Go.Proofs.Ytmjpecjciibngaa
