/- ExprBlanks: the walk. -/
import Derived.Test.YtmjpecjciibngaaBBla
import Derived.Test.YtmjpecjciibngaaBPutb
import Derived.Test.YtmjpecjciibngaaKnown
import Derived.Laws.DeepStrings4
namespace Go.Proofs.Ytmjpecjciibngaa
open Go.RowKit
set_option linter.unusedVariables false

theorem own_step (c y : UInt8) (k : Nat) (h : listC[k]? = some y) : ownTo c (k + 1) = (ownTo c k || ((c.toNat : Int) == (y.toNat : Int))) := by
  rw [ownTo_succ c k _ h]
  congr 1
  rw [Bool.eq_iff_iff]
  simp only [beq_iff_eq]
  constructor
  · intro e; rw [e]
  · intro e
    apply UInt8.toNat_inj.1
    omega

set_option maxRecDepth 100000 in
set_option maxHeartbeats 4000000 in
theorem blanks_any (s : Bs) (a : Int) (bl : Nat) (hbl : bl < 256) (w : World) : Calls Try.prog 6 #[.string (str s), .int .u16 a, .int .u8 (bl : Int)] w fun e w' => e = .returned (.bool true) ∧ Below w.heap.size w w' := by
  have hsz : (str s).size = s.length := size_str s
  by_cases hl : 500 < s.length
  · have hl2 : (500 : Int) < ((str s).size : Int) := by omega
    go_enter Try.func6, Try.ntmps6
    go_wp2_with fail
    refine (known_any _).mono ?_
    rintro e w1 ⟨rfl, hb1⟩
    go_wp2_with fail
    go_ret
    exact ⟨rfl, hb1⟩
  · have hl2 : ¬ (500 : Int) < ((str s).size : Int) := by omega
    have hlen : s.length ≤ 140737488351232 := by omega
    obtain ⟨h, hh3, hhi⟩ : ∃ h : Nat, h < 3 ∧ (bl : Int).tmod 3 = (h : Int) := ⟨bl % 3, by omega, by rw [Int.tmod_eq_emod_of_nonneg (by omega)]; omega⟩
    by_cases h0 : (parseL s).2.2 = 0
    · have hW := blank_ways s (by omega) h hh3 h0
      have hat := ((parse_good s (by omega)).2 h0).1
      have hbk := blankB_ok h hh3
      have hix : ∀ W : World, (Instr.index 49 (.agg #[.string ⟨#[32]⟩, .string ⟨#[9]⟩, .string ⟨#[10, 32]⟩]) (.int .u8 (h : Int))).run Try.prog W = .ok (.string (str (blankB h))) W := by
        have h4 : h = 0 ∨ h = 1 ∨ h = 2 := by omega
        rcases h4 with rfl | rfl | rfl <;> exact fun _ => by rfl
      generalize hB : blankB h = B at *
      have hbi : (bl : Int) % 3 = (h : Int) := by rw [← hhi, Int.tmod_eq_emod_of_nonneg (by omega)]
      clear hB
      go_enter Try.func6, Try.ntmps6
      go_wp2_with fail
      refine (known_any _).mono ?_
      rintro e w1 ⟨rfl, hb1⟩
      go_wp2_with fail
      refine (parse_any s _ hlen).mono ?_
      unfold ParseSays
      rw [h0, hat]
      generalize (parseL s).1 = t at *
      rintro e w2 ⟨x, rfl, hE, hb2⟩
      obtain ⟨xk, xa, xv, xA, xn, xc, rfl⟩ := hE.four
      have HE := Lib.hid (hE.alloc (.cells #[.int .i64 xk, .int .i64 xa, .int .i64 xv, .slice xA xn xc] 36)); have HW := Lib.hid hW
      have HX := Lib.hid (Blk.new w2 36 #[.int .i64 xk, .int .i64 xa, .int .i64 xv, .slice xA xn xc])
      have HB2 := Lib.hid ((hb1.step hb2).step (below1 w2 (.cells #[.int .i64 xk, .int .i64 xa, .int .i64 xv, .slice xA xn xc] 36)))
      clear hE hW hb1 hb2
      go_wp2_with fail
      have hB5 : B.length ≤ 2 := hbk.2
      have hcat : ∀ x y : Bs, str x ++ str y = str (x ++ y) := str_cat
      have hsize : ∀ x : Bs, (str x).size = x.length := size_str
      obtain ⟨W, hWw⟩ : ∃ W : World, W = w2.alloc (.cells #[.int .i64 xk, .int .i64 xa, .int .i64 xv, .slice xA xn xc] 36) := ⟨_, rfl⟩
      rw [← hWw]
      rw [← hWw] at HE HX HB2
      have HBk := Lib.hid hbk
      have HCat := Lib.hid hcat
      clear hix hWw hbk hcat
      go_loopw [13, 11] (fun i tt wr => ∃ k : Nat, k ≤ s.length ∧ i = .int .i64 k ∧ tt = .string (str (blankL B (s.take k))) ∧ Below W.heap.size W wr) (fun i _ _ => s.length - (intOf i).toNat)
      case atStart => exact ⟨0, by omega, rfl, rfl, Below.refl _ _⟩
      case round =>
        obtain ⟨k, hk, rfl, rfl, hbw⟩ := hrel
        by_cases hkl : k < s.length
        · obtain ⟨c, hc⟩ : ∃ c, s[k]? = some c := ⟨s[k], List.getElem?_eq_getElem _⟩
          have hget : ∀ hh : k < (str s).size, (str s)[k]'hh = c := fun hh => by
            have : s[k]? = some ((str s)[k]'hh) := by
              rw [List.getElem?_eq_getElem hkl]; rfl
            rw [hc] at this; injection this with this; exact this.symm
          have k0 : (0 : Int) ≤ (k : Int) := by omega
          have k1 : (k : Int) < (s.length : Int) := by omega
          have HC := Lib.hid hc
          clear hc
          go_wp2_with fail
          go_loopw [15, 14] (fun j ow wr' => ∃ m : Nat, m ≤ 7 ∧ j = .int .i64 m ∧ ow = .bool (ownTo c m) ∧ Below W.heap.size W wr') (fun j _ _ => 7 - (intOf j).toNat)
          case atStart => exact ⟨0, by omega, rfl, rfl, hbw⟩
          case round =>
            clear hbw
            obtain ⟨m, hm, rfl, rfl, hbw⟩ := hrel
            by_cases hm7 : m < 7
            · obtain ⟨y, hy⟩ : ∃ y, listC[m]? = some y := ⟨listC[m]'hm7, List.getElem?_eq_getElem _⟩
              have hget2 : ∀ hh : m < (⟨#[33, 38, 94, 124, 40, 41, 44]⟩ : ByteArray).size, (⟨#[33, 38, 94, 124, 40, 41, 44]⟩ : ByteArray)[m]'hh = y := fun hh => by
                have : listC[m]? = some ((⟨#[33, 38, 94, 124, 40, 41, 44]⟩ : ByteArray)[m]'hh) := by
                  rw [List.getElem?_eq_getElem (show m < listC.length from hm7)]; rfl
                rw [hy] at this; injection this with this; exact this.symm
              have HST := Lib.hid (own_step c y m hy)
              have m0 : (0 : Int) ≤ (m : Int) := by omega
              have m1 : (m : Int) < 7 := by omega
              clear hy
              cases ho : ownTo c m
              all_goals
                go_wp2_with fail
                go_region
                go_wp2_with fail
                go_roundw
                case measure => simp [intOf]; omega
                case rel =>
                  refine ⟨m + 1, by omega, by go_num, ?_, hbw.trans (below_drew _ |>.mono hbw.size)⟩
                  rw [HST.out, ho]; rfl
            · obtain rfl : m = 7 := by omega
              have hall := ownTo_all c
              have hsl : (str s).extract k (k + 1) = str [c] := by
                have : ((str s).extract k (k + 1)).data.toList = [c] := by
                  rw [data_extract]
                  show (s.drop k).take (k + 1 - k) = [c]
                  rw [List.drop_eq_getElem_cons hkl, show k + 1 - k = 1 by omega]
                  have := HC.out
                  rw [List.getElem?_eq_getElem hkl] at this
                  injection this with this
                  simp [this]
                rw [← str_data ((str s).extract k (k + 1)), this]
              have hbl2 := (blankL_len B hB5 (s.take k)).1
              have hX : (blankL B (s.take k)).length ≤ 2500 := by rw [List.length_take] at hbl2; omega
              have hsnoc := blankL_snoc B (s.take k) c
              have htk : s.take (k + 1) = s.take k ++ [c] := by rw [List.take_add_one, HC.out]; rfl
              rw [← htk] at hsnoc
              have HSN := Lib.hid hsnoc; have HAl := Lib.hid hall
              have k2 : IntKind.i64.wrap ((k : Int) + 1) = (k : Int) + 1 := IntWalk.i64_in _ (by omega)
              have k3 : (0 : Int) ≤ (k : Int) + 1 := by omega
              have k4 : (k : Int) + 1 ≤ (s.length : Int) := by omega
              have k5 : ((k : Int) + 1).toNat = k + 1 := by omega
              have hcat := HCat.out
              have hslice : ∀ V : World, (Instr.slice 9 (.string (str s)) (some (.int .i64 (k : Int))) (some (.int .i64 ((k : Int) + 1))) none).run Try.prog V = .ok (.string (str [c])) V := fun V => by
                rw [run_slice_string_if (h := Try.underlying9), if_pos ⟨by omega, by rw [hsz]; omega⟩, if_pos ⟨by omega, by omega⟩, k5]
                rw [show ((k : Int)).toNat = k by omega, hsl]
              clear hsnoc hall htk hbl2
              generalize blankL B (s.take k) = X at *
              have n1 : ¬ 9223372036854775807 < X.length + B.length := by omega
              have n2 : ¬ 9223372036854775807 < X.length + B.length + 1 := by omega
              have n3 : ¬ 9223372036854775807 < X.length + B.length + 1 + B.length := by omega
              have n4 : ¬ 9223372036854775807 < X.length + 1 := by omega
              cases ho : ownTo c 7
              all_goals
                go_wp2_with fail
                go_roundw
                case measure => simp [intOf]; omega
                case rel =>
                  refine ⟨k + 1, by omega, by go_num, ?_, hbw⟩
                  rw [HSN.out]
                  have h7 := HAl.out
                  rw [ho] at h7
                  unfold blankS
                  rw [← h7]
                  simp
        · obtain rfl : k = s.length := by omega
          have hk1 : ¬ (s.length : Int) < (s.length : Int) := by omega
          rw [List.take_of_length_le (Nat.le_refl _)]
          have hbl2 := (blankL_len B hB5 s).1
          obtain ⟨hF, hp0, hG, hsame, hprint⟩ := HW.out
          have hfl : (B ++ blankL B s ++ B).length ≤ 140737488351232 := by simp only [List.length_append]; omega
          generalize hX : blankL B s = X at *
          have n1 : ¬ 9223372036854775807 < B.length + X.length := by omega
          have n2 : ¬ 9223372036854775807 < B.length + X.length + B.length := by omega
          have hcat := HCat.out
          have HF := Lib.hid hF; have HG := Lib.hid hG; have HS := Lib.hid hsame; have HP := Lib.hid hprint; have H0 := Lib.hid hp0
          clear hX hF hp0 hG hsame hprint hbl2
          have HEw := Lib.hid (HE.out.keep hbw); have HXw := Lib.hid (HX.out.keep hbw); have HBw := Lib.hid (HB2.out.step hbw)
          clear hbw HE HX HB2 HW
          go_wp2_with fail
          rw [show B ++ (X ++ B) = B ++ X ++ B by simp]
          refine (parse_any (B ++ X ++ B) _ hfl).mono ?_
          unfold ParseSays
          rw [H0.out]
          generalize (parseL (B ++ X ++ B)).2.1 = pos at *
          generalize (parseL (B ++ X ++ B)).1 = u at *
          rintro e w4 ⟨y, rfl, hE4, hb4⟩
          obtain ⟨yk, ya, yv, yA, yn, yc, rfl⟩ := hE4.four
          obtain ⟨V, hV⟩ : ∃ V : World, V = w4.alloc (.cells #[.int .i64 yk, .int .i64 ya, .int .i64 yv, .slice yA yn yc] 36) := ⟨_, rfl⟩
          have HB4 := Lib.hid (show Below w.heap.size w V from hV ▸ ((HBw.out.step hb4).step (below1 w4 (.cells #[.int .i64 yk, .int .i64 ya, .int .i64 yv, .slice yA yn yc] 36))))
          have HEt := Lib.hid (show ExprV _ V t _ from hV ▸ ((HEw.out.keep hb4).alloc (.cells #[.int .i64 yk, .int .i64 ya, .int .i64 yv, .slice yA yn yc] 36)))
          have HEu := Lib.hid (show ExprV _ V u _ from hV ▸ (hE4.alloc (.cells #[.int .i64 yk, .int .i64 ya, .int .i64 yv, .slice yA yn yc] 36)))
          have hbX := (HXw.out.keep hb4).alloc (.cells #[.int .i64 yk, .int .i64 ya, .int .i64 yv, .slice yA yn yc] 36)
          rw [← hV] at hbX
          have hbY : Blk V w4.heap.size 36 #[.int .i64 yk, .int .i64 ya, .int .i64 yv, .slice yA yn yc] := hV ▸ Blk.new w4 _ _
          obtain ⟨⟨x0, x1, x2, x3⟩, _⟩ := hbX.four
          obtain ⟨⟨y0, y1, y2, y3⟩, _⟩ := hbY.four
          have lX := hbX.lt; have lY := hbY.lt
          have HWd := Lib.hid (wide_of_small t HF.out.small)
          have HqW := Lib.hid hV
          clear hE4 hb4 hbX hbY hV
          go_wp2_with fail
          rw [← HqW.out]
          go_region_held3 (fun w' => V.heap.size ≤ w'.heap.size ∧ ∀ p : Addr, p.block < V.heap.size → w'.cell? p = V.cell? p)
            (first
              | exact ⟨Nat.le_refl _, fun p _ => rfl⟩
              | exact ⟨q1, q2⟩
              | exact ⟨q3, q4⟩
              | exact ⟨q5, q6⟩)
            (first
              | (go_at_call 17; (with_reducible refine ((same_tree t HWd.out).call _ _ u _ _ _ HEt.out.drew HEu.out.drew).mono ?_); rintro e w5 ⟨rfl, hb5⟩; rw [HS.out];
                 have B5 := (show Below V.heap.size V w5 from hb5.of_drew); have q1 := B5.size; have q2 := fun (p : Addr) (hp : p.block < V.heap.size) => B5.cell hp)
              | (go_at_call 16; (with_reducible refine (print_any u _ _ HG.out.small HG.out.len (HEu.out.keep B6)).mono ?_); rintro e w7 ⟨rfl, hb7⟩; rw [HG.out.print, HP.out];
                 have B7 := B6.step hb7; have q5 := B7.size; have q6 := fun (p : Addr) (hp : p.block < V.heap.size) => B7.cell hp)
              | (go_at_call 16; (with_reducible refine (print_any t _ _ HF.out.small HF.out.len (HEt.out.keep B5)).mono ?_); rintro e w6 ⟨rfl, hb6⟩; rw [HF.out.print];
                 have B6 := B5.step hb6; have q3 := B6.size; have q4 := fun (p : Addr) (hp : p.block < V.heap.size) => B6.cell hp))
          have HB8 := Lib.hid (HB4.out.step B7)
          clear q1 q2 q3 q4 q5 q6 B5 B6 B7 hb5 hb6 hb7
          go_wp2_with fail
          go_ret
          exact ⟨rfl, HB8.out⟩
    · have hen : (((parseL s).2.2 : Int) != 0) = true := by simp; omega
      go_enter Try.func6, Try.ntmps6
      go_wp2_with fail
      refine (known_any _).mono ?_
      rintro e w1 ⟨rfl, hb1⟩
      go_wp2_with fail
      refine (parse_any s _ hlen).mono ?_
      unfold ParseSays
      rintro e w2 ⟨x, rfl, hE, hb2⟩
      obtain ⟨xk, xa, xv, xA, xn, xc, rfl⟩ := hE.four
      generalize (parseL s).2.2 = en at *
      generalize (parseL s).2.1 = pos at *
      have HB2 := Lib.hid ((hb1.step hb2).step (below1 w2 (.cells #[.int .i64 xk, .int .i64 xa, .int .i64 xv, .slice xA xn xc] 36)))
      clear hE hb1 hb2
      go_wp2_with fail
      go_ret
      exact ⟨rfl, HB2.out⟩
end Go.Proofs.Ytmjpecjciibngaa
