/- The reference's Fix: plain facts of words. The reference's Fix. The reference's Fix of a high variable; Ite, Exists, Forall. -/
import Derived.Test.YtmjpecjciibngaaBRef
import Derived.Test.YtmjpecjciibngaaTruth6
namespace Go.Proofs.Ytmjpecjciibngaa
open Go.RowKit
set_option linter.unusedVariables false

theorem bits_andNot_u64 (a b : Nat) (ha : a < 18446744073709551616) (hb : b < 18446744073709551616) : bits .andNot .u64 (a : Int) (b : Int) = ((a &&& (18446744073709551615 ^^^ b) : Nat) : Int) := by
  show IntKind.u64.wrap ((BitVec.ofInt 64 (a : Int) &&& ~~~ BitVec.ofInt 64 (b : Int)).toNat : Int) = _
  have h1 : (BitVec.ofInt 64 (a : Int) &&& ~~~ BitVec.ofInt 64 (b : Int)).toNat = a &&& (18446744073709551615 ^^^ b) := by
    rw [BitVec.toNat_and, bv64 a ha]
    congr 1
    apply Nat.eq_of_testBit_eq
    intro i
    rw [← BitVec.getLsbD, BitVec.getLsbD_not, Nat.testBit_xor]
    have h2 : (18446744073709551615 : Nat) = 2 ^ 64 - 1 := by decide
    rw [h2, Nat.testBit_two_pow_sub_one, BitVec.getLsbD, bv64 b hb]
    by_cases hi : i < 64
    · simp [hi]
    · have : b.testBit i = false := Nat.testBit_lt_two_pow (Nat.lt_of_lt_of_le hb (by
        have : 2 ^ 64 ≤ 2 ^ i := Nat.pow_le_pow_right (by omega) (by omega)
        omega))
      simp [hi, this]
  rw [h1]
  have h3 : a &&& (18446744073709551615 ^^^ b) ≤ a := Nat.and_le_left
  exact IntWalk.u64_in _ (by omega)
/-- The bits below k that have bit v. -/
def maskTo (v : Nat) : Nat → Nat
  | 0 => 0
  | k + 1 => if k.testBit v then maskTo v k ||| 2 ^ k else maskTo v k
theorem testBit_mask (v : Nat) : ∀ k j, (maskTo v k).testBit j = (decide (j < k) && j.testBit v)
  | 0, j => by simp [maskTo]
  | k + 1, j => by
    have ih := testBit_mask v k j
    unfold maskTo
    by_cases hjk : j = k
    · subst hjk
      cases hv : j.testBit v
      · simp [ih]
      · simp [ih]
    · have h1 : decide (j < k + 1) = decide (j < k) := by rw [decide_eq_decide]; omega
      rw [h1]
      split
      · rw [Nat.testBit_or, ih, Nat.testBit_two_pow]
        have : decide (k = j) = false := by simp; omega
        rw [this, Bool.or_false]
      · exact ih
theorem mask_lt (v : Nat) : ∀ k, maskTo v k < 2 ^ k
  | 0 => by simp [maskTo]
  | k + 1 => by
    have ih := mask_lt v k
    have h2 : 2 ^ k < 2 ^ (k + 1) := Nat.pow_lt_pow_right (by omega) (by omega)
    unfold maskTo
    split
    · exact Nat.or_lt_two_pow (by omega) h2
    · omega
theorem mask_le (v k : Nat) (hk : k ≤ 64) : maskTo v k < 18446744073709551616 := by
  have h1 := mask_lt v k
  have h2 : 2 ^ k ≤ 2 ^ 64 := Nat.pow_le_pow_right (by omega) hk
  omega
/-- Bits set by a shift: all j below 64, all v below 6, by a look. -/
theorem bits_look : ((List.range 6).all fun v => (List.range 64).all fun j =>
    if j.testBit v then withB j v true == j && (!(j + 2 ^ v).testBit v || decide (64 ≤ j + 2 ^ v)) && (withB j v false == j - 2 ^ v && decide (2 ^ v ≤ j) && !(j - 2 ^ v).testBit v)
    else withB j v true == j + 2 ^ v && (j + 2 ^ v).testBit v && decide (j + 2 ^ v < 64) && (withB j v false == j) && (decide (j < 2 ^ v) || (j - 2 ^ v).testBit v)) = true := by decide +kernel
theorem bits_at (v j : Nat) (hv : v < 6) (hj : j < 64) : (j.testBit v = true → withB j v true = j ∧ (64 ≤ j + 2 ^ v ∨ (j + 2 ^ v).testBit v = false) ∧ withB j v false = j - 2 ^ v ∧ 2 ^ v ≤ j ∧ (j - 2 ^ v).testBit v = false) ∧
    (j.testBit v = false → withB j v true = j + 2 ^ v ∧ (j + 2 ^ v).testBit v = true ∧ j + 2 ^ v < 64 ∧ withB j v false = j ∧ (j < 2 ^ v ∨ (j - 2 ^ v).testBit v = true)) := by
  have h := bits_look
  rw [List.all_eq_true] at h
  have h := h v (List.mem_range.2 hv)
  rw [List.all_eq_true] at h
  have h := h j (List.mem_range.2 hj)
  constructor
  · intro hb
    rw [if_pos hb] at h
    simp only [Bool.and_eq_true, Bool.or_eq_true, beq_iff_eq, decide_eq_true_eq, Bool.not_eq_true'] at h
    obtain ⟨⟨h1, h2⟩, ⟨h3, h4⟩, h5⟩ := h
    exact ⟨h1, h2.symm, h3, h4, h5⟩
  · intro hb
    rw [if_neg (by rw [hb]; simp)] at h
    simp only [Bool.and_eq_true, Bool.or_eq_true, beq_iff_eq, decide_eq_true_eq] at h
    obtain ⟨⟨⟨⟨h1, h2⟩, h3⟩, h4⟩, h5⟩ := h
    exact ⟨h1, h2, h3, h4, h5⟩
theorem withB_hi (v : Nat) (hv : v < 6) (i j : Nat) (hi : i < 4) (hj : j < 64) (b : Bool) : withB (64 * i + j) v b = 64 * i + withB j v b ∧ withB j v b < 64 := by
  have h : ((List.range 6).all fun v => (List.range 4).all fun i => (List.range 64).all fun j => [false, true].all fun b => withB (64 * i + j) v b == 64 * i + withB j v b && decide (withB j v b < 64)) = true := by decide +kernel
  rw [List.all_eq_true] at h
  have h := h v (List.mem_range.2 hv)
  rw [List.all_eq_true] at h
  have h := h i (List.mem_range.2 hi)
  rw [List.all_eq_true] at h
  have h := h j (List.mem_range.2 hj)
  rw [List.all_eq_true] at h
  have h := h b (by cases b <;> simp)
  simpa using h
/-- A word, a low variable set. -/
theorem fix_set (f : Nat → Bool) (v i : Nat) (hv : v < 6) (hi : i < 4) : (wd f i &&& maskTo v 64) ||| ((wd f i &&& maskTo v 64) / 2 ^ (2 ^ v)) = wd (fixF f v true) i := by
  apply Nat.eq_of_testBit_eq
  intro j
  rw [testBit_wd, Nat.testBit_or, Nat.testBit_div_two_pow, Nat.testBit_and, Nat.testBit_and, testBit_wd, testBit_wd, testBit_mask, testBit_mask]
  by_cases hj : j < 64
  · obtain ⟨h1, h2⟩ := bits_at v j hv hj
    obtain ⟨hw, hwl⟩ := withB_hi v hv i j hi hj true
    unfold fixF
    rw [hw]
    cases hb : j.testBit v
    · obtain ⟨a1, a2, a3, _, _⟩ := h2 hb
      simp only [hj, decide_true, Bool.true_and, a1, a2, a3, Bool.and_false, Bool.false_or, Bool.and_true]
    · obtain ⟨a1, a2, _⟩ := h1 hb
      have : (decide (j + 2 ^ v < 64) && (j + 2 ^ v).testBit v) = false := by
        rcases a2 with a2 | a2
        · simp; omega
        · simp [a2]
      simp [hj, a1, this]
  · have : ¬ j + 2 ^ v < 64 := by
      generalize 2 ^ v = s
      omega
    simp [hj, this]
/-- A word, a low variable cleared. -/
theorem fix_clear (f : Nat → Bool) (v i : Nat) (hv : v < 6) (hi : i < 4) : (wd f i &&& (18446744073709551615 ^^^ maskTo v 64)) ||| ((wd f i &&& (18446744073709551615 ^^^ maskTo v 64)) * 2 ^ (2 ^ v) % 18446744073709551616) = wd (fixF f v false) i := by
  have h64 : (18446744073709551616 : Nat) = 2 ^ 64 := by decide
  have hm : (18446744073709551615 : Nat) = 2 ^ 64 - 1 := by decide
  apply Nat.eq_of_testBit_eq
  intro j
  rw [testBit_wd, Nat.testBit_or, h64, Nat.testBit_mod_two_pow, ← Nat.shiftLeft_eq, Nat.testBit_shiftLeft, Nat.testBit_and, Nat.testBit_and, Nat.testBit_xor, Nat.testBit_xor, testBit_wd, testBit_wd, testBit_mask, testBit_mask, hm, Nat.testBit_two_pow_sub_one, Nat.testBit_two_pow_sub_one]
  by_cases hj : j < 64
  · obtain ⟨h1, h2⟩ := bits_at v j hv hj
    obtain ⟨hw, hwl⟩ := withB_hi v hv i j hi hj false
    unfold fixF
    rw [hw]
    cases hb : j.testBit v
    · obtain ⟨_, _, _, a1, a2⟩ := h2 hb
      rcases a2 with a2 | a2
      · have : ¬ 2 ^ v ≤ j := by omega
        simp [hj, a1, this]
      · simp [hj, a1, a2]
    · obtain ⟨_, _, a1, a2, a3⟩ := h1 hb
      have : j - 2 ^ v < 64 := by omega
      simp [hj, a1, a2, a3, this]
  · simp [hj]
end Go.Proofs.Ytmjpecjciibngaa
namespace Go.Proofs.Ytmjpecjciibngaa
open Go.RowKit
set_option linter.unusedVariables false

/-- The words, j of them done. -/
def fixTo (f : Nat → Bool) (v : Nat) (b : Bool) (j i : Nat) : Nat := if i < j then wd (fixF f v b) i else wd f i
theorem fixTo_zero (f : Nat → Bool) (v : Nat) (b : Bool) : wordCells (fixTo f v b 0) = tabCells f := by simp [fixTo, wordCells]
theorem fixTo_all (f : Nat → Bool) (v : Nat) (b : Bool) : wordCells (fixTo f v b 4) = tabCells (fixF f v b) := by simp [fixTo, wordCells]
theorem fixTo_set (f : Nat → Bool) (v : Nat) (b : Bool) (k : Nat) (hk : k < 4) : (wordCells (fixTo f v b k)).setIfInBounds k (.int .u64 (wd (fixF f v b) k : Nat)) = wordCells (fixTo f v b (k + 1)) := by
  have : k = 0 ∨ k = 1 ∨ k = 2 ∨ k = 3 := by omega
  rcases this with rfl | rfl | rfl | rfl <;> simp [wordCells, fixTo]
theorem wd_lt2 (f : Nat → Bool) (i : Nat) : ((wd f i : Nat) : Int) < 18446744073709551616 := by have := wd_lt f i; omega
theorem and_two (k v : Nat) (hk : k < 64) (hv : v < 6) : (bits .and .u64 (k : Int) ((2 ^ v : Nat) : Int) != 0) = k.testBit v := by
  have h : ((List.range 64).all fun k => (List.range 6).all fun v => (decide (k &&& 2 ^ v ≠ 0)) == k.testBit v) = true := by decide +kernel
  rw [List.all_eq_true] at h
  have h := h k (List.mem_range.2 hk)
  rw [List.all_eq_true] at h
  have h := h v (List.mem_range.2 hv)
  rw [bits_and_u64 _ _ (by omega) (by
    have : 2 ^ v < 2 ^ 64 := Nat.pow_lt_pow_right (by omega) (by omega)
    omega)]
  rw [beq_iff_eq] at h
  rw [← h, Bool.eq_iff_iff]
  simp
theorem or_div (A s : Nat) (hA : A < 18446744073709551616) : bits .or .u64 (A : Int) ((A : Int) / 2 ^ s) = ((A ||| A / 2 ^ s : Nat) : Int) := by
  have h2 : ((A : Int) / (2 ^ s : Int)) = ((A / 2 ^ s : Nat) : Int) := by rw [Int.natCast_ediv, Int.natCast_pow]; rfl
  rw [h2]
  exact bits_or_u64 _ _ hA (Nat.lt_of_le_of_lt (Nat.div_le_self _ _) hA)
theorem wrap_u64 (n : Int) : IntKind.u64.wrap n = n % 18446744073709551616 := by simp [IntKind.wrap, IntKind.bits, IntKind.signed]
theorem or_mul (A s : Nat) (hA : A < 18446744073709551616) : bits .or .u64 (A : Int) (IntKind.u64.wrap ((A : Int) * 2 ^ s)) = ((A ||| A * 2 ^ s % 18446744073709551616 : Nat) : Int) := by
  have h2 : IntKind.u64.wrap ((A : Int) * 2 ^ s) = ((A * 2 ^ s % 18446744073709551616 : Nat) : Int) := by
    rw [wrap_u64, Int.natCast_emod, Int.natCast_mul, Int.natCast_pow]; rfl
  rw [h2]
  exact bits_or_u64 _ _ hA (Nat.mod_lt _ (by omega))
set_option maxRecDepth 100000 in
set_option maxHeartbeats 4000000 in
theorem rfix_low (f : Nat → Bool) (v : Nat) (hv : v < 6) (b : Bool) (w : World) : Calls Try.prog 56 #[tabV f, .int .i64 (v : Int), .bool b] w fun e w' => e = .returned (tabV (fixF f v b)) ∧ Below w.heap.size w w' := by
  have v0 : (0 : Int) ≤ (v : Int) := by omega
  have v1 : ¬ (8 : Int) ≤ (v : Int) := by omega
  have v2 : ¬ (6 : Int) ≤ (v : Int) := by omega
  unfold tabV tabCells
  go_enter Try.func56, Try.ntmps56
  go_wp2_with fail
  have hs : IntKind.u64.wrap ((2 : Int) ^ v) = ((2 ^ v : Nat) : Int) := by
    have := shl1_u64 v
    rwa [Nat.mod_eq_of_lt (show v < 64 by omega)] at this
  rw [hs]
  obtain ⟨s, hsv⟩ : ∃ s : Nat, s = 2 ^ v := ⟨_, rfl⟩
  have hs64 : s < 64 := by
    rw [hsv]
    have : 2 ^ v < 2 ^ 6 := Nat.pow_lt_pow_right (by omega) hv
    omega
  rw [← hsv]
  have HSv := Lib.hid hsv
  have HX := Lib.hid ((Blk.new w 29 (tabCells f)).alloc (.cells zeroTab 29))
  have HZ := Lib.hid (Blk.new1 w (.cells (tabCells f) 29) 29 zeroTab)
  unfold tabCells zeroTab at HX HZ
  obtain ⟨W, hW⟩ : ∃ W : World, W = (w.alloc (.cells #[.int .u64 (wd f 0 : Nat), .int .u64 (wd f 1 : Nat), .int .u64 (wd f 2 : Nat), .int .u64 (wd f 3 : Nat)] 29)).alloc (.cells #[.int .u64 0, .int .u64 0, .int .u64 0, .int .u64 0] 29) := ⟨_, rfl⟩
  have HB := Lib.hid (show Below w.heap.size w W from hW ▸ below2 w _ _)
  have hsz : w.heap.size + 2 ≤ W.heap.size := by rw [hW]; simp
  rw [← hW] at HX HZ
  rw [← hW]
  clear hW hs hsv
  go_loopw [12, 10] (fun x m wr => ∃ k : Nat, k ≤ 64 ∧ x = .int .u64 k ∧ m = .int .u64 (maskTo v k : Nat) ∧ wr = W) (fun x _ _ => 64 - (intOf x).toNat)
  case atStart => exact ⟨0, by omega, rfl, rfl, rfl⟩
  case round =>
    obtain ⟨k, hk, rfl, rfl, hw⟩ := hrel
    subst hw
    by_cases hk64 : k < 64
    · have k0 : (0 : Int) ≤ (k : Int) := by omega
      have k1 : (k : Int) < 64 := by omega
      have hand := and_two k v hk64 hv
      rw [← HSv.out] at hand
      have hmk : maskTo v (k + 1) = if k.testBit v then maskTo v k ||| 2 ^ k else maskTo v k := rfl
      have HM := Lib.hid hmk
      have hpk : IntKind.u64.wrap ((2 : Int) ^ k) = ((2 ^ k : Nat) : Int) := by
        have := shl1_u64 k
        rwa [Nat.mod_eq_of_lt hk64] at this
      have hor : bits .or .u64 ((maskTo v k : Nat) : Int) ((2 ^ k : Nat) : Int) = ((maskTo v k ||| 2 ^ k : Nat) : Int) := bits_or_u64 _ _ (mask_le v k (by omega)) (by
        have : 2 ^ k < 2 ^ 64 := Nat.pow_lt_pow_right (by omega) hk64
        omega)
      have Hpk := Lib.hid hpk; have Hor := Lib.hid hor
      clear hmk hpk hor
      cases hb : k.testBit v
      all_goals
        rw [hb] at hand
        go_wp2_with fail
        go_roundw
        case measure => simp [intOf]; omega
        case rel =>
          refine ⟨k + 1, by omega, by go_num, ?_, trivial⟩
          rw [HM.out, hb]
          first
          | rfl
          | (simp only [if_true]; rw [← Hor.out, ← Hpk.out])
    · obtain rfl : k = 64 := by omega
      have hM : maskTo v 64 < 18446744073709551616 := mask_le v 64 (by omega)
      obtain ⟨M, hMM⟩ : ∃ M : Nat, M = maskTo v 64 := ⟨_, rfl⟩
      rw [← hMM] at hM ⊢
      have HMM := Lib.hid hMM
      clear hMM
      go_wp2_with fail
      go_loopw [13] (fun i wr' => ∃ j : Nat, j ≤ 4 ∧ i = .int .i64 j ∧ Below w.heap.size w wr' ∧ w.heap.size + 2 ≤ wr'.heap.size ∧ Blk wr' w.heap.size 29 (wordCells (fixTo f v b j)) ∧ Blk wr' (w.heap.size + 1) 29 zeroTab) (fun i _ => 4 - (intOf i).toNat)
      case atStart => exact ⟨0, by omega, rfl, HB.out, hsz, by rw [fixTo_zero]; exact HX.out, HZ.out⟩
      case round =>
        clear HB hsz HX HZ
        obtain ⟨j, hj, rfl, hb, hsz, hX, hZ⟩ := hrel
        by_cases hj4 : j < 4
        · have c0 : wr.cell? ⟨w.heap.size, j, none⟩ = some (.int .u64 (wd f j : Nat)) := by
            rw [hX.cell j]
            have : (wordCells (fixTo f v b j))[j]? = some (.int .u64 (fixTo f v b j j : Nat)) := wordCells_get _ hj4
            rw [this]; simp [fixTo]
          have f0 := hX.free j
          have HX := Lib.hid hX; have HZ := Lib.hid hZ
          clear hX hZ
          have j0 : (0 : Int) ≤ (j : Int) := by omega
          have j1 : (j : Int) < 4 := by omega
          cases b
          · have hA : bits .andNot .u64 ((wd f j : Nat) : Int) (M : Int) = ((wd f j &&& (18446744073709551615 ^^^ M) : Nat) : Int) := bits_andNot_u64 _ _ (wd_lt f j) hM
            obtain ⟨A, hAA⟩ : ∃ A : Nat, A = wd f j &&& (18446744073709551615 ^^^ M) := ⟨_, rfl⟩
            rw [← hAA] at hA
            have HAA := Lib.hid hAA
            clear hAA
            have hAl : A < 18446744073709551616 := by rw [HAA.out]; exact Nat.lt_of_le_of_lt Nat.and_le_left (wd_lt f j)
            have hfin : bits .or .u64 (A : Int) (IntKind.u64.wrap ((A : Int) * 2 ^ s)) = ((wd (fixF f v false) j : Nat) : Int) := by
              rw [or_mul A s hAl, HAA.out, HMM.out, HSv.out, fix_clear f v j hv hj4]
            have HFin := Lib.hid hfin
            clear hfin
            go_wp2_with fail
            go_roundw
            case measure => simp [intOf]; omega
            case rel =>
              refine ⟨j + 1, by omega, by go_num, hb.setCell (p := ⟨w.heap.size, j, none⟩) (by simp) _, by simpa using hsz, ?_, HZ.out.far (p := ⟨w.heap.size, j, none⟩) (by simp) _⟩
              rw [HFin.out, ← fixTo_set f v false j hj4]
              exact HX.out.set _ _
          · have hA : bits .and .u64 ((wd f j : Nat) : Int) (M : Int) = ((wd f j &&& M : Nat) : Int) := bits_and_u64 _ _ (wd_lt f j) hM
            obtain ⟨A, hAA⟩ : ∃ A : Nat, A = wd f j &&& M := ⟨_, rfl⟩
            rw [← hAA] at hA
            have HAA := Lib.hid hAA
            clear hAA
            have hAl : A < 18446744073709551616 := by rw [HAA.out]; exact Nat.lt_of_le_of_lt Nat.and_le_left (wd_lt f j)
            have hfin : bits .or .u64 (A : Int) ((A : Int) / 2 ^ s) = ((wd (fixF f v true) j : Nat) : Int) := by
              rw [or_div A s hAl, HAA.out, HMM.out, HSv.out, fix_set f v j hv hj4]
            have HFin := Lib.hid hfin
            clear hfin
            go_wp2_with fail
            go_roundw
            case measure => simp [intOf]; omega
            case rel =>
              refine ⟨j + 1, by omega, by go_num, hb.setCell (p := ⟨w.heap.size, j, none⟩) (by simp) _, by simpa using hsz, ?_, HZ.out.far (p := ⟨w.heap.size, j, none⟩) (by simp) _⟩
              rw [HFin.out, ← fixTo_set f v true j hj4]
              exact HX.out.set _ _
        · obtain rfl : j = 4 := by omega
          rw [fixTo_all] at hX
          obtain ⟨⟨a0, a1, a2, a3⟩, e0, e1, e2, e3⟩ := Blk.four hX
          obtain ⟨⟨c0, c1, c2, c3⟩, g0, g1, g2, g3⟩ := Blk.four hZ
          have HX := Lib.hid hX; have HZ := Lib.hid hZ
          clear hX hZ
          go_wp2_with fail
          exact ret_tab rfl _ _ rfl rfl (HZ.out.put4 _ _ _ _) ⟨rfl, hb.put4 (by omega) _ _ _ _⟩
end Go.Proofs.Ytmjpecjciibngaa
namespace Go.Proofs.Ytmjpecjciibngaa
open Go.RowKit
set_option linter.unusedVariables false

/-- Which words stand where, j steps on. -/
def hiL : Nat → Bool → Nat → List Nat
  | 6, false, 0 => [0, 1, 2, 3]
  | 6, false, 1 => [0, 0, 2, 3]
  | 6, false, 2 => [0, 0, 2, 3]
  | 6, false, 3 => [0, 0, 2, 2]
  | 6, false, 4 => [0, 0, 2, 2]
  | 6, true, 0 => [0, 1, 2, 3]
  | 6, true, 1 => [1, 1, 2, 3]
  | 6, true, 2 => [1, 1, 2, 3]
  | 6, true, 3 => [1, 1, 3, 3]
  | 6, true, 4 => [1, 1, 3, 3]
  | 7, false, 0 => [0, 1, 2, 3]
  | 7, false, 1 => [0, 1, 0, 3]
  | 7, false, 2 => [0, 1, 0, 1]
  | 7, false, 3 => [0, 1, 0, 1]
  | 7, false, 4 => [0, 1, 0, 1]
  | 7, true, 0 => [0, 1, 2, 3]
  | 7, true, 1 => [2, 1, 2, 3]
  | 7, true, 2 => [2, 3, 2, 3]
  | 7, true, 3 => [2, 3, 2, 3]
  | 7, true, 4 => [2, 3, 2, 3]
  | _, _, _ => [0, 1, 2, 3]
def hiC (f : Nat → Bool) (l : List Nat) : Array Value := #[.int .u64 (wd f (l.getD 0 0) : Nat), .int .u64 (wd f (l.getD 1 0) : Nat), .int .u64 (wd f (l.getD 2 0) : Nat), .int .u64 (wd f (l.getD 3 0) : Nat)]
theorem hi_look : ([6, 7].all fun v => [false, true].all fun b => (List.range 4).all fun i => (List.range 64).all fun j => withB (64 * i + j) v b == 64 * (hiL v b 4).getD i 0 + j) = true := by decide +kernel
theorem hi_wd (f : Nat → Bool) (v : Nat) (hv : v = 6 ∨ v = 7) (b : Bool) (i : Nat) (hi : i < 4) : wd (fixF f v b) i = wd f ((hiL v b 4).getD i 0) := by
  have h := hi_look
  rw [List.all_eq_true] at h
  have h := h v (by rcases hv with rfl | rfl <;> simp)
  rw [List.all_eq_true] at h
  have h := h b (by cases b <;> simp)
  rw [List.all_eq_true] at h
  have h := h i (List.mem_range.2 hi)
  rw [List.all_eq_true] at h
  apply Nat.eq_of_testBit_eq
  intro j
  rw [testBit_wd, testBit_wd]
  by_cases hj : j < 64
  · have h := h j (List.mem_range.2 hj)
    rw [beq_iff_eq] at h
    unfold fixF
    rw [h]
  · simp [hj]
theorem hi_all (f : Nat → Bool) (v : Nat) (hv : v = 6 ∨ v = 7) (b : Bool) : hiC f (hiL v b 4) = tabCells (fixF f v b) := by
  unfold hiC tabCells
  rw [hi_wd f v hv b 0 (by omega), hi_wd f v hv b 1 (by omega), hi_wd f v hv b 2 (by omega), hi_wd f v hv b 3 (by omega)]
set_option maxRecDepth 100000 in
set_option maxHeartbeats 4000000 in
theorem rfix_6f (f : Nat → Bool) (w : World) : Calls Try.prog 56 #[tabV f, .int .i64 6, .bool false] w fun e w' => e = .returned (tabV (fixF f 6 false)) ∧ Below w.heap.size w w' := by
  have ba0 : bits .and .i64 0 1 = 0 := by decide
  have bo0 : bits .or .i64 0 1 = 1 := by decide
  have ba1 : bits .and .i64 1 1 = 1 := by decide
  have ba2 : bits .and .i64 2 1 = 0 := by decide
  have bo2 : bits .or .i64 2 1 = 3 := by decide
  have ba3 : bits .and .i64 3 1 = 1 := by decide
  unfold tabV tabCells
  go_enter Try.func56, Try.ntmps56
  go_wp2_with fail
  go_loopw [8] (fun i wr => ∃ j : Nat, j ≤ 4 ∧ i = .int .i64 j ∧ Below w.heap.size w wr ∧ w.heap.size + 2 ≤ wr.heap.size ∧ Blk wr w.heap.size 29 (hiC f (hiL 6 false j)) ∧ Blk wr (w.heap.size + 1) 29 zeroTab) (fun i _ => 4 - (intOf i).toNat)
  case atStart => exact ⟨0, by omega, rfl, below2 w _ _, by simp, (Blk.new w _ _).alloc _, Blk.new1 w _ _ _⟩
  case round =>
    obtain ⟨j, hj, rfl, hb, hsz, hX, hZ⟩ := hrel
    have hj5 : j = 0 ∨ j = 1 ∨ j = 2 ∨ j = 3 ∨ j = 4 := by omega
    rcases hj5 with rfl | rfl | rfl | rfl | rfl
    · have X : Blk wr w.heap.size 29 #[.int .u64 (wd f 0 : Nat), .int .u64 (wd f 1 : Nat), .int .u64 (wd f 2 : Nat), .int .u64 (wd f 3 : Nat)] := hX
      obtain ⟨⟨c0, c1, c2, c3⟩, f0, f1, f2, f3⟩ := X.four
      have HX := Lib.hid X; have HZ := Lib.hid hZ
      clear hX X hZ
      go_wp2_with fail
      go_roundw
      case measure => simp [intOf]
      case rel => exact ⟨1, by omega, rfl, (hb.setCell (p := ⟨w.heap.size, 0, none⟩) (by simp) _).setCell (p := ⟨w.heap.size, 1, none⟩) (by simp) _, by simpa using hsz, (HX.out.set 0 _).set 1 _, (HZ.out.far (p := ⟨w.heap.size, 0, none⟩) (by simp) _).far (p := ⟨w.heap.size, 1, none⟩) (by simp) _⟩
    · have X : Blk wr w.heap.size 29 #[.int .u64 (wd f 0 : Nat), .int .u64 (wd f 0 : Nat), .int .u64 (wd f 2 : Nat), .int .u64 (wd f 3 : Nat)] := hX
      obtain ⟨⟨c0, c1, c2, c3⟩, f0, f1, f2, f3⟩ := X.four
      have HX := Lib.hid X; have HZ := Lib.hid hZ
      clear hX X hZ
      go_wp2_with fail
      go_roundw
      case measure => simp [intOf]
      case rel => exact ⟨2, by omega, rfl, hb, hsz, HX.out, HZ.out⟩
    · have X : Blk wr w.heap.size 29 #[.int .u64 (wd f 0 : Nat), .int .u64 (wd f 0 : Nat), .int .u64 (wd f 2 : Nat), .int .u64 (wd f 3 : Nat)] := hX
      obtain ⟨⟨c0, c1, c2, c3⟩, f0, f1, f2, f3⟩ := X.four
      have HX := Lib.hid X; have HZ := Lib.hid hZ
      clear hX X hZ
      go_wp2_with fail
      go_roundw
      case measure => simp [intOf]
      case rel => exact ⟨3, by omega, rfl, (hb.setCell (p := ⟨w.heap.size, 2, none⟩) (by simp) _).setCell (p := ⟨w.heap.size, 3, none⟩) (by simp) _, by simpa using hsz, (HX.out.set 2 _).set 3 _, (HZ.out.far (p := ⟨w.heap.size, 2, none⟩) (by simp) _).far (p := ⟨w.heap.size, 3, none⟩) (by simp) _⟩
    · have X : Blk wr w.heap.size 29 #[.int .u64 (wd f 0 : Nat), .int .u64 (wd f 0 : Nat), .int .u64 (wd f 2 : Nat), .int .u64 (wd f 2 : Nat)] := hX
      obtain ⟨⟨c0, c1, c2, c3⟩, f0, f1, f2, f3⟩ := X.four
      have HX := Lib.hid X; have HZ := Lib.hid hZ
      clear hX X hZ
      go_wp2_with fail
      go_roundw
      case measure => simp [intOf]
      case rel => exact ⟨4, by omega, rfl, hb, hsz, HX.out, HZ.out⟩
    · rw [hi_all f 6 (by omega) false] at hX
      obtain ⟨⟨a0, a1, a2, a3⟩, e0, e1, e2, e3⟩ := Blk.four hX
      obtain ⟨⟨c0, c1, c2, c3⟩, g0, g1, g2, g3⟩ := Blk.four hZ
      have HX := Lib.hid hX; have HZ := Lib.hid hZ
      clear hX hZ
      go_wp2_with fail
      exact ret_tab rfl _ _ rfl rfl (HZ.out.put4 _ _ _ _) ⟨rfl, hb.put4 (by omega) _ _ _ _⟩
set_option maxRecDepth 100000 in
set_option maxHeartbeats 4000000 in
theorem rfix_6t (f : Nat → Bool) (w : World) : Calls Try.prog 56 #[tabV f, .int .i64 6, .bool true] w fun e w' => e = .returned (tabV (fixF f 6 true)) ∧ Below w.heap.size w w' := by
  have ba0 : bits .and .i64 0 1 = 0 := by decide
  have bo0 : bits .or .i64 0 1 = 1 := by decide
  have ba1 : bits .and .i64 1 1 = 1 := by decide
  have ba2 : bits .and .i64 2 1 = 0 := by decide
  have bo2 : bits .or .i64 2 1 = 3 := by decide
  have ba3 : bits .and .i64 3 1 = 1 := by decide
  unfold tabV tabCells
  go_enter Try.func56, Try.ntmps56
  go_wp2_with fail
  go_loopw [8] (fun i wr => ∃ j : Nat, j ≤ 4 ∧ i = .int .i64 j ∧ Below w.heap.size w wr ∧ w.heap.size + 2 ≤ wr.heap.size ∧ Blk wr w.heap.size 29 (hiC f (hiL 6 true j)) ∧ Blk wr (w.heap.size + 1) 29 zeroTab) (fun i _ => 4 - (intOf i).toNat)
  case atStart => exact ⟨0, by omega, rfl, below2 w _ _, by simp, (Blk.new w _ _).alloc _, Blk.new1 w _ _ _⟩
  case round =>
    obtain ⟨j, hj, rfl, hb, hsz, hX, hZ⟩ := hrel
    have hj5 : j = 0 ∨ j = 1 ∨ j = 2 ∨ j = 3 ∨ j = 4 := by omega
    rcases hj5 with rfl | rfl | rfl | rfl | rfl
    · have X : Blk wr w.heap.size 29 #[.int .u64 (wd f 0 : Nat), .int .u64 (wd f 1 : Nat), .int .u64 (wd f 2 : Nat), .int .u64 (wd f 3 : Nat)] := hX
      obtain ⟨⟨c0, c1, c2, c3⟩, f0, f1, f2, f3⟩ := X.four
      have HX := Lib.hid X; have HZ := Lib.hid hZ
      clear hX X hZ
      go_wp2_with fail
      go_roundw
      case measure => simp [intOf]
      case rel => exact ⟨1, by omega, rfl, (hb.setCell (p := ⟨w.heap.size, 0, none⟩) (by simp) _).setCell (p := ⟨w.heap.size, 1, none⟩) (by simp) _, by simpa using hsz, (HX.out.set 0 _).set 1 _, (HZ.out.far (p := ⟨w.heap.size, 0, none⟩) (by simp) _).far (p := ⟨w.heap.size, 1, none⟩) (by simp) _⟩
    · have X : Blk wr w.heap.size 29 #[.int .u64 (wd f 1 : Nat), .int .u64 (wd f 1 : Nat), .int .u64 (wd f 2 : Nat), .int .u64 (wd f 3 : Nat)] := hX
      obtain ⟨⟨c0, c1, c2, c3⟩, f0, f1, f2, f3⟩ := X.four
      have HX := Lib.hid X; have HZ := Lib.hid hZ
      clear hX X hZ
      go_wp2_with fail
      go_roundw
      case measure => simp [intOf]
      case rel => exact ⟨2, by omega, rfl, hb, hsz, HX.out, HZ.out⟩
    · have X : Blk wr w.heap.size 29 #[.int .u64 (wd f 1 : Nat), .int .u64 (wd f 1 : Nat), .int .u64 (wd f 2 : Nat), .int .u64 (wd f 3 : Nat)] := hX
      obtain ⟨⟨c0, c1, c2, c3⟩, f0, f1, f2, f3⟩ := X.four
      have HX := Lib.hid X; have HZ := Lib.hid hZ
      clear hX X hZ
      go_wp2_with fail
      go_roundw
      case measure => simp [intOf]
      case rel => exact ⟨3, by omega, rfl, (hb.setCell (p := ⟨w.heap.size, 2, none⟩) (by simp) _).setCell (p := ⟨w.heap.size, 3, none⟩) (by simp) _, by simpa using hsz, (HX.out.set 2 _).set 3 _, (HZ.out.far (p := ⟨w.heap.size, 2, none⟩) (by simp) _).far (p := ⟨w.heap.size, 3, none⟩) (by simp) _⟩
    · have X : Blk wr w.heap.size 29 #[.int .u64 (wd f 1 : Nat), .int .u64 (wd f 1 : Nat), .int .u64 (wd f 3 : Nat), .int .u64 (wd f 3 : Nat)] := hX
      obtain ⟨⟨c0, c1, c2, c3⟩, f0, f1, f2, f3⟩ := X.four
      have HX := Lib.hid X; have HZ := Lib.hid hZ
      clear hX X hZ
      go_wp2_with fail
      go_roundw
      case measure => simp [intOf]
      case rel => exact ⟨4, by omega, rfl, hb, hsz, HX.out, HZ.out⟩
    · rw [hi_all f 6 (by omega) true] at hX
      obtain ⟨⟨a0, a1, a2, a3⟩, e0, e1, e2, e3⟩ := Blk.four hX
      obtain ⟨⟨c0, c1, c2, c3⟩, g0, g1, g2, g3⟩ := Blk.four hZ
      have HX := Lib.hid hX; have HZ := Lib.hid hZ
      clear hX hZ
      go_wp2_with fail
      exact ret_tab rfl _ _ rfl rfl (HZ.out.put4 _ _ _ _) ⟨rfl, hb.put4 (by omega) _ _ _ _⟩
set_option maxRecDepth 100000 in
set_option maxHeartbeats 4000000 in
theorem rfix_7f (f : Nat → Bool) (w : World) : Calls Try.prog 56 #[tabV f, .int .i64 7, .bool false] w fun e w' => e = .returned (tabV (fixF f 7 false)) ∧ Below w.heap.size w w' := by
  have ba0 : bits .and .i64 0 2 = 0 := by decide
  have bo0 : bits .or .i64 0 2 = 2 := by decide
  have ba1 : bits .and .i64 1 2 = 0 := by decide
  have bo1 : bits .or .i64 1 2 = 3 := by decide
  have ba2 : bits .and .i64 2 2 = 2 := by decide
  have ba3 : bits .and .i64 3 2 = 2 := by decide
  unfold tabV tabCells
  go_enter Try.func56, Try.ntmps56
  go_wp2_with fail
  go_loopw [8] (fun i wr => ∃ j : Nat, j ≤ 4 ∧ i = .int .i64 j ∧ Below w.heap.size w wr ∧ w.heap.size + 2 ≤ wr.heap.size ∧ Blk wr w.heap.size 29 (hiC f (hiL 7 false j)) ∧ Blk wr (w.heap.size + 1) 29 zeroTab) (fun i _ => 4 - (intOf i).toNat)
  case atStart => exact ⟨0, by omega, rfl, below2 w _ _, by simp, (Blk.new w _ _).alloc _, Blk.new1 w _ _ _⟩
  case round =>
    obtain ⟨j, hj, rfl, hb, hsz, hX, hZ⟩ := hrel
    have hj5 : j = 0 ∨ j = 1 ∨ j = 2 ∨ j = 3 ∨ j = 4 := by omega
    rcases hj5 with rfl | rfl | rfl | rfl | rfl
    · have X : Blk wr w.heap.size 29 #[.int .u64 (wd f 0 : Nat), .int .u64 (wd f 1 : Nat), .int .u64 (wd f 2 : Nat), .int .u64 (wd f 3 : Nat)] := hX
      obtain ⟨⟨c0, c1, c2, c3⟩, f0, f1, f2, f3⟩ := X.four
      have HX := Lib.hid X; have HZ := Lib.hid hZ
      clear hX X hZ
      go_wp2_with fail
      go_roundw
      case measure => simp [intOf]
      case rel => exact ⟨1, by omega, rfl, (hb.setCell (p := ⟨w.heap.size, 0, none⟩) (by simp) _).setCell (p := ⟨w.heap.size, 2, none⟩) (by simp) _, by simpa using hsz, (HX.out.set 0 _).set 2 _, (HZ.out.far (p := ⟨w.heap.size, 0, none⟩) (by simp) _).far (p := ⟨w.heap.size, 2, none⟩) (by simp) _⟩
    · have X : Blk wr w.heap.size 29 #[.int .u64 (wd f 0 : Nat), .int .u64 (wd f 1 : Nat), .int .u64 (wd f 0 : Nat), .int .u64 (wd f 3 : Nat)] := hX
      obtain ⟨⟨c0, c1, c2, c3⟩, f0, f1, f2, f3⟩ := X.four
      have HX := Lib.hid X; have HZ := Lib.hid hZ
      clear hX X hZ
      go_wp2_with fail
      go_roundw
      case measure => simp [intOf]
      case rel => exact ⟨2, by omega, rfl, (hb.setCell (p := ⟨w.heap.size, 1, none⟩) (by simp) _).setCell (p := ⟨w.heap.size, 3, none⟩) (by simp) _, by simpa using hsz, (HX.out.set 1 _).set 3 _, (HZ.out.far (p := ⟨w.heap.size, 1, none⟩) (by simp) _).far (p := ⟨w.heap.size, 3, none⟩) (by simp) _⟩
    · have X : Blk wr w.heap.size 29 #[.int .u64 (wd f 0 : Nat), .int .u64 (wd f 1 : Nat), .int .u64 (wd f 0 : Nat), .int .u64 (wd f 1 : Nat)] := hX
      obtain ⟨⟨c0, c1, c2, c3⟩, f0, f1, f2, f3⟩ := X.four
      have HX := Lib.hid X; have HZ := Lib.hid hZ
      clear hX X hZ
      go_wp2_with fail
      go_roundw
      case measure => simp [intOf]
      case rel => exact ⟨3, by omega, rfl, hb, hsz, HX.out, HZ.out⟩
    · have X : Blk wr w.heap.size 29 #[.int .u64 (wd f 0 : Nat), .int .u64 (wd f 1 : Nat), .int .u64 (wd f 0 : Nat), .int .u64 (wd f 1 : Nat)] := hX
      obtain ⟨⟨c0, c1, c2, c3⟩, f0, f1, f2, f3⟩ := X.four
      have HX := Lib.hid X; have HZ := Lib.hid hZ
      clear hX X hZ
      go_wp2_with fail
      go_roundw
      case measure => simp [intOf]
      case rel => exact ⟨4, by omega, rfl, hb, hsz, HX.out, HZ.out⟩
    · rw [hi_all f 7 (by omega) false] at hX
      obtain ⟨⟨a0, a1, a2, a3⟩, e0, e1, e2, e3⟩ := Blk.four hX
      obtain ⟨⟨c0, c1, c2, c3⟩, g0, g1, g2, g3⟩ := Blk.four hZ
      have HX := Lib.hid hX; have HZ := Lib.hid hZ
      clear hX hZ
      go_wp2_with fail
      exact ret_tab rfl _ _ rfl rfl (HZ.out.put4 _ _ _ _) ⟨rfl, hb.put4 (by omega) _ _ _ _⟩
set_option maxRecDepth 100000 in
set_option maxHeartbeats 4000000 in
theorem rfix_7t (f : Nat → Bool) (w : World) : Calls Try.prog 56 #[tabV f, .int .i64 7, .bool true] w fun e w' => e = .returned (tabV (fixF f 7 true)) ∧ Below w.heap.size w w' := by
  have ba0 : bits .and .i64 0 2 = 0 := by decide
  have bo0 : bits .or .i64 0 2 = 2 := by decide
  have ba1 : bits .and .i64 1 2 = 0 := by decide
  have bo1 : bits .or .i64 1 2 = 3 := by decide
  have ba2 : bits .and .i64 2 2 = 2 := by decide
  have ba3 : bits .and .i64 3 2 = 2 := by decide
  unfold tabV tabCells
  go_enter Try.func56, Try.ntmps56
  go_wp2_with fail
  go_loopw [8] (fun i wr => ∃ j : Nat, j ≤ 4 ∧ i = .int .i64 j ∧ Below w.heap.size w wr ∧ w.heap.size + 2 ≤ wr.heap.size ∧ Blk wr w.heap.size 29 (hiC f (hiL 7 true j)) ∧ Blk wr (w.heap.size + 1) 29 zeroTab) (fun i _ => 4 - (intOf i).toNat)
  case atStart => exact ⟨0, by omega, rfl, below2 w _ _, by simp, (Blk.new w _ _).alloc _, Blk.new1 w _ _ _⟩
  case round =>
    obtain ⟨j, hj, rfl, hb, hsz, hX, hZ⟩ := hrel
    have hj5 : j = 0 ∨ j = 1 ∨ j = 2 ∨ j = 3 ∨ j = 4 := by omega
    rcases hj5 with rfl | rfl | rfl | rfl | rfl
    · have X : Blk wr w.heap.size 29 #[.int .u64 (wd f 0 : Nat), .int .u64 (wd f 1 : Nat), .int .u64 (wd f 2 : Nat), .int .u64 (wd f 3 : Nat)] := hX
      obtain ⟨⟨c0, c1, c2, c3⟩, f0, f1, f2, f3⟩ := X.four
      have HX := Lib.hid X; have HZ := Lib.hid hZ
      clear hX X hZ
      go_wp2_with fail
      go_roundw
      case measure => simp [intOf]
      case rel => exact ⟨1, by omega, rfl, (hb.setCell (p := ⟨w.heap.size, 0, none⟩) (by simp) _).setCell (p := ⟨w.heap.size, 2, none⟩) (by simp) _, by simpa using hsz, (HX.out.set 0 _).set 2 _, (HZ.out.far (p := ⟨w.heap.size, 0, none⟩) (by simp) _).far (p := ⟨w.heap.size, 2, none⟩) (by simp) _⟩
    · have X : Blk wr w.heap.size 29 #[.int .u64 (wd f 2 : Nat), .int .u64 (wd f 1 : Nat), .int .u64 (wd f 2 : Nat), .int .u64 (wd f 3 : Nat)] := hX
      obtain ⟨⟨c0, c1, c2, c3⟩, f0, f1, f2, f3⟩ := X.four
      have HX := Lib.hid X; have HZ := Lib.hid hZ
      clear hX X hZ
      go_wp2_with fail
      go_roundw
      case measure => simp [intOf]
      case rel => exact ⟨2, by omega, rfl, (hb.setCell (p := ⟨w.heap.size, 1, none⟩) (by simp) _).setCell (p := ⟨w.heap.size, 3, none⟩) (by simp) _, by simpa using hsz, (HX.out.set 1 _).set 3 _, (HZ.out.far (p := ⟨w.heap.size, 1, none⟩) (by simp) _).far (p := ⟨w.heap.size, 3, none⟩) (by simp) _⟩
    · have X : Blk wr w.heap.size 29 #[.int .u64 (wd f 2 : Nat), .int .u64 (wd f 3 : Nat), .int .u64 (wd f 2 : Nat), .int .u64 (wd f 3 : Nat)] := hX
      obtain ⟨⟨c0, c1, c2, c3⟩, f0, f1, f2, f3⟩ := X.four
      have HX := Lib.hid X; have HZ := Lib.hid hZ
      clear hX X hZ
      go_wp2_with fail
      go_roundw
      case measure => simp [intOf]
      case rel => exact ⟨3, by omega, rfl, hb, hsz, HX.out, HZ.out⟩
    · have X : Blk wr w.heap.size 29 #[.int .u64 (wd f 2 : Nat), .int .u64 (wd f 3 : Nat), .int .u64 (wd f 2 : Nat), .int .u64 (wd f 3 : Nat)] := hX
      obtain ⟨⟨c0, c1, c2, c3⟩, f0, f1, f2, f3⟩ := X.four
      have HX := Lib.hid X; have HZ := Lib.hid hZ
      clear hX X hZ
      go_wp2_with fail
      go_roundw
      case measure => simp [intOf]
      case rel => exact ⟨4, by omega, rfl, hb, hsz, HX.out, HZ.out⟩
    · rw [hi_all f 7 (by omega) true] at hX
      obtain ⟨⟨a0, a1, a2, a3⟩, e0, e1, e2, e3⟩ := Blk.four hX
      obtain ⟨⟨c0, c1, c2, c3⟩, g0, g1, g2, g3⟩ := Blk.four hZ
      have HX := Lib.hid hX; have HZ := Lib.hid hZ
      clear hX hZ
      go_wp2_with fail
      exact ret_tab rfl _ _ rfl rfl (HZ.out.put4 _ _ _ _) ⟨rfl, hb.put4 (by omega) _ _ _ _⟩
theorem rfix_any (f : Nat → Bool) (v : Nat) (hv : v < 8) (b : Bool) (w : World) : Calls Try.prog 56 #[tabV f, .int .i64 (v : Int), .bool b] w fun e w' => e = .returned (tabV (fixF f v b)) ∧ Below w.heap.size w w' := by
  by_cases h : v < 6
  · exact rfix_low f v h b w
  · have : v = 6 ∨ v = 7 := by omega
    rcases this with rfl | rfl <;> cases b
    · exact rfix_6f f w
    · exact rfix_6t f w
    · exact rfix_7f f w
    · exact rfix_7t f w
end Go.Proofs.Ytmjpecjciibngaa
