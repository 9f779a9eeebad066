/- ExprNests: the walk. -/
import Derived.Test.YtmjpecjciibngaaKnown
namespace Go.Proofs.Ytmjpecjciibngaa
open Go.RowKit
set_option linter.unusedVariables false

def preN (h : Nat) : Bs := ([[40], [33], [97, 110, 121, 32, 118, 51, 32], [118, 49, 32, 45, 62, 32]] : List Bs).getD h []
def rep (l : Bs) : Nat → Bs
  | 0 => []
  | n + 1 => rep l n ++ l
def frontN (h i : Nat) : Bs := rep (preN h) i
def backN (h i : Nat) : Bs := if h = 0 then rep [41] i else []
def startN (h i : Nat) : Nat := if 30 < i then 31 * (preN h).length else 0
def nest (h m : Nat) : Bs := frontN h m ++ [118, 50] ++ backN h m
def Tree.kind : Tree → Int | .node k _ _ _ => k
def nestOK (h m : Nat) : Bool :=
  let r := parseL (nest h m)
  if 30 < m then r.2.1 == startN h m && (r.2.2 == 231 && decide (r.1.kind = 0)) else r.2.1 == 0 && (r.2.2 == 0 && (smallT r.1 && isT r.1))
theorem nest_all : ((List.range 4).all fun h => (List.range 36).all fun m => nestOK h m) = true := by kernel_rfl
theorem nest_ok (h m : Nat) (hh : h < 4) (hm : m < 36) : nestOK h m = true := by
  have := nest_all
  rw [List.all_eq_true] at this
  have := this h (List.mem_range.2 hh)
  rw [List.all_eq_true] at this
  exact this m (List.mem_range.2 hm)
theorem str_app (a b : Bs) : str a ++ str b = str (a ++ b) := by
  apply ByteArray.ext
  simp [str]
theorem rep_len (l : Bs) : ∀ n, (rep l n).length = n * l.length
  | 0 => by simp [rep]
  | n + 1 => by simp [rep, rep_len l n, Nat.succ_mul]

theorem front_succ (h k : Nat) : frontN h (k + 1) = frontN h k ++ preN h := rfl
theorem back_succ0 (k : Nat) : backN 0 (k + 1) = backN 0 k ++ [41] := rfl
theorem back_succ (h k : Nat) (hh : h ≠ 0) : backN h (k + 1) = backN h k := by unfold backN; rw [if_neg hh, if_neg hh]
theorem start_succ (h k : Nat) (hk : k ≠ 30) : startN h (k + 1) = startN h k := by
  unfold startN
  by_cases h1 : 30 < k
  · rw [if_pos h1, if_pos (by omega)]
  · rw [if_neg h1, if_neg (by omega)]
theorem start_30 (h : Nat) : ((str (frontN h 30)).size : Int) + ((str (preN h)).size : Int) = (startN h 31 : Nat) := by
  rw [size_str, size_str]
  unfold startN frontN
  rw [rep_len, if_pos (by omega)]
  omega
theorem pre_le (h : Nat) (hh : h < 4) : (preN h).length ≤ 10 := by
  have : h = 0 ∨ h = 1 ∨ h = 2 ∨ h = 3 := by omega
  rcases this with rfl | rfl | rfl | rfl <;> decide
theorem front_le (h m : Nat) (hh : h < 4) (hm : m < 36) : (frontN h m).length ≤ 1000 := by
  have h1 : m * (preN h).length ≤ 35 * 10 := Nat.mul_le_mul (by omega) (pre_le h hh)
  unfold frontN
  rw [rep_len]
  omega
theorem back_le (h m : Nat) (hm : m < 36) : (backN h m).length ≤ 1000 := by
  unfold backN
  split
  · rw [rep_len]; simp; omega
  · simp
theorem nest_len (h m : Nat) (hh : h < 4) (hm : m < 36) : (nest h m).length ≤ 140737488351232 := by
  have h1 := front_le h m hh hm
  have h2 := back_le h m hm
  unfold nest
  simp only [List.length_append, List.length_cons, List.length_nil]
  omega

set_option maxRecDepth 100000 in
set_option maxHeartbeats 4000000 in
theorem nests_any (n how : Nat) (hn : n < 256) (hh : how < 256) (w : World) : Calls Try.prog 4 #[.int .u8 (n : Int), .int .u8 (how : Int)] w fun e w' => e = .returned (.bool true) ∧ Below w.heap.size w w' := by
  obtain ⟨m, hm, hm36⟩ : ∃ m : Nat, (n : Int) % 36 = (m : Int) ∧ m < 36 := ⟨n % 36, by omega, by omega⟩
  obtain ⟨h, hh4, hlt4⟩ : ∃ h : Nat, (how : Int) % 4 = (h : Int) ∧ h < 4 := ⟨how % 4, by omega, by omega⟩
  have hix : ∀ W : World, (Instr.index 42 (.agg #[.string ⟨#[40]⟩, .string ⟨#[33]⟩, .string ⟨#[97, 110, 121, 32, 118, 51, 32]⟩, .string ⟨#[118, 49, 32, 45, 62, 32]⟩]) (.int .u8 (h : Int))).run Try.prog W = .ok (.string (str (preN h))) W := by
    have h4 : h = 0 ∨ h = 1 ∨ h = 2 ∨ h = 3 := by omega
    rcases h4 with rfl | rfl | rfl | rfl <;> exact fun _ => by rfl
  go_enter Try.func4, Try.ntmps4
  go_wp2_with fail
  refine (known_any _).mono ?_
  rintro e w1 ⟨rfl, hb1⟩
  go_wp2_with fail
  go_loopw [10, 6, 7, 8] (fun i f b st wr => ∃ k : Nat, k ≤ m ∧ i = .int .i64 k ∧ f = .string (str (frontN h k)) ∧ b = .string (str (backN h k)) ∧ st = .int .i64 (startN h k) ∧ wr = w1) (fun i _ _ _ _ => m - (intOf i).toNat)
  case atStart =>
    refine ⟨0, by omega, rfl, rfl, ?_, rfl, rfl⟩
    unfold backN
    split <;> rfl
  case round =>
    obtain ⟨k, hk, rfl, rfl, rfl, rfl, hw⟩ := hrel
    subst hw
    have l1 : (str (frontN h k)).size ≤ 1000 := by rw [size_str]; exact front_le h k hlt4 (by omega)
    have l2 : (str (backN h k)).size ≤ 1000 := by rw [size_str]; exact back_le h k (by omega)
    have l3 : (str (preN h)).size ≤ 10 := by rw [size_str]; exact pre_le h hlt4
    by_cases hlt : k < m
    · have hk0 : (0 : Int) ≤ (k : Int) := by omega
      have hkm : (k : Int) < (m : Int) := by omega
      cases hz : ((h : Int) == 0) <;> cases ht : ((k : Int) == 30)
      all_goals
        go_wp2_with fail
        clear hix
        go_roundw
        case measure => simp [intOf]; omega
        case rel =>
          simp only [beq_iff_eq, beq_eq_false_iff_ne, ne_eq] at hz ht
          refine ⟨k + 1, by omega, by go_num, by rw [str_app, front_succ], ?_, ?_, trivial⟩
          · first
            | (rw [back_succ h k (by omega)])
            | (obtain rfl : h = 0 := by omega
               rw [back_succ0, ← str_app]; rfl)
          · first
            | (rw [start_succ h k (by omega)])
            | (obtain rfl : k = 30 := by omega
               rw [start_30])
    · obtain rfl : k = m := by omega
      have hcat : str (frontN h k) ++ ⟨#[118, 50]⟩ ++ str (backN h k) = str (nest h k) := by
        rw [show (⟨#[118, 50]⟩ : ByteArray) = str [118, 50] from rfl, str_app, str_app]; rfl
      have hok := nest_ok h k hlt4 hm36
      unfold nestOK at hok
      go_wp2_with fail
      refine (parse_any (nest h k) _ (nest_len h k hlt4 hm36)).mono ?_
      unfold ParseSays
      generalize parseL (nest h k) = P at *
      rintro e w2 ⟨x, rfl, hE, hb2⟩
      by_cases h30 : 30 < k
      · simp only [if_pos h30, Bool.and_eq_true, beq_iff_eq, decide_eq_true_eq] at hok
        obtain ⟨o1, o2, o3⟩ := hok
        rw [o1, o2]
        have hk30 : (30 : Int) < (k : Int) := by omega
        obtain ⟨xk, xa, xv, xA, xn, xc, rfl⟩ := hE.four
        have hx0 : xk = 0 := by
          cases hP : P.1 with
          | node k' a' v' ks' =>
            rw [hP] at hE o3
            unfold ExprV at hE
            obtain ⟨A', c', e, _⟩ := hE
            injection e with e
            simp only [Array.mk.injEq, List.cons.injEq, Value.int.injEq] at e
            rw [e.1.2]; exact o3
        subst hx0
        clear hE o1 o2 o3
        go_wp2_with fail
        go_ret
        exact ⟨rfl, (hb1.trans (hb2.mono hb1.size)).trans ((below1 _ _).mono (by have := hb1.size; have := hb2.size; omega))⟩
      · simp only [if_neg h30, Bool.and_eq_true, beq_iff_eq] at hok
        obtain ⟨o1, o2, o3, o4⟩ := hok
        rw [o1, o2]
        have hk30 : ¬ (30 : Int) < (k : Int) := by omega
        obtain ⟨xk, xa, xv, xA, xn, xc, rfl⟩ := hE.four
        have HE := Lib.hid hE; have HS := Lib.hid o3; have HT := Lib.hid o4
        clear hE o1 o2 o3 o4
        go_wp2_with fail
        refine (is_ok P.1 _ _ HS.out (HE.out.alloc _)).mono ?_
        rintro e w3 ⟨rfl, hb3⟩
        rw [HT.out]
        go_wp2_with fail
        go_ret
        exact ⟨rfl, (hb1.trans (hb2.mono hb1.size)).trans ((below1 _ _).step hb3 |>.mono (by have := hb1.size; have := hb2.size; omega))⟩
end Go.Proofs.Ytmjpecjciibngaa
