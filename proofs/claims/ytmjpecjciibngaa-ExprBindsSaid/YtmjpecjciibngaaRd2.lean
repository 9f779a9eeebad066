/- The reader in memory: may, must. -/
import Derived.Test.YtmjpecjciibngaaRd1
namespace Go.Proofs.Ytmjpecjciibngaa
open Go.RowKit
set_option linter.unusedVariables false

theorem toList_str (l : Bs) : (str l).toList = l := by rw [ByteArray.toList_eq, data_str]

set_option maxRecDepth 100000 in
theorem may_any (b : Nat) (s : Bs) (p : PS) (t : Bs) (w : World) (hs : s.length ≤ 4000) (hP : PM w b s p) (ht : good t) :
    Calls Try.prog 61 #[.pointer (some ⟨b, 0, none⟩), .string (str t)] w fun e' w' => e' = .returned (.bool (p.may t).1) ∧ w.grownBy w' (some b) ∧ PM w' b s (p.may t).2 := by
  obtain ⟨⟨c0, c1, c2, c3, c4, c5⟩, f0, f1, f2, f3, f4, f5⟩ := six hP.blk
  clear f0 f1 f2 f3 f4 f5 c0 c2 c3 c5
  by_cases he : p.e = 0
  · by_cases hh : p.hd.1 = t
    · have hm : p.may t = (true, p.goes) := by unfold PS.may; rw [if_pos ⟨he, hh⟩]
      have hg : good p.hd.1 := hh ▸ ht
      have Hm := Lib.hid hm
      have Hg := Lib.hid hg
      have HP := Lib.hid hP
      rw [he] at c4
      rw [hh] at c1
      clear hP hm hg he hh
      go_enter Try.func61, Try.ntmps61
      go_wp2_with fail
      refine (goes_any b s p _ hs HP.out Hg.out).mono ?_
      rintro e' w1 ⟨rfl, hgr, hP1⟩
      have HP1 := Lib.hid hP1; clear hP1
      go_wp2_with fail
      go_ret
      rw [Hm.out]
      exact ⟨rfl, hgr, HP1.out⟩
    · have hm : p.may t = (false, p) := by unfold PS.may; rw [if_neg (fun h => hh h.2)]
      have Hm := Lib.hid hm
      have HP := Lib.hid hP
      have h1 : ¬ (str p.hd.1).toList = (str t).toList := by rw [toList_str, toList_str]; exact hh
      have h2 : ((str p.hd.1).toList == (str t).toList) = false := by simp [h1]
      rw [he] at c4
      clear hP hm he hh
      go_enter Try.func61, Try.ntmps61
      go_wp2_with fail
      go_ret
      rw [Hm.out]
      exact ⟨rfl, World.grownBy.refl _ _, HP.out⟩
  · have hm : p.may t = (false, p) := by unfold PS.may; rw [if_neg (fun h => he h.1)]
    have Hm := Lib.hid hm
    have HP := Lib.hid hP
    have h0 : ((p.e : Int) != 0) = true := by rw [bne_iff_ne]; omega
    have h0' : ((p.e : Int) == 0) = false := by simp; omega
    clear hP hm
    go_enter Try.func61, Try.ntmps61
    go_wp2_with fail
    go_ret
    rw [Hm.out]
    exact ⟨rfl, World.grownBy.refl _ _, HP.out⟩

theorem must_any (b : Nat) (s : Bs) (p : PS) (t : Bs) (w : World) (hs : s.length ≤ 4000) (hP : PM w b s p) (ht : good t) :
    Calls Try.prog 90 #[.pointer (some ⟨b, 0, none⟩), .string (str t)] w fun e' w' => e' = .returned (.tuple #[]) ∧ w.grownBy w' (some b) ∧ PM w' b s (p.must t) := by
  have hm : p.must t = if (p.may t).1 then (p.may t).2 else (p.may t).2.bad 230 := rfl
  have Hm := Lib.hid hm
  have HP := Lib.hid hP
  clear hP hm
  go_enter Try.func90, Try.ntmps90
  go_wp2_with fail
  refine (may_any b s p t _ hs HP.out ht).mono ?_
  rintro e' w1 ⟨rfl, hgr, hP1⟩
  have HP1 := Lib.hid hP1; clear hP1
  cases hb : (p.may t).1
  · have Hb := Lib.hid hb; clear hb
    go_wp2_with fail
    refine (bad_any b s (p.may t).2 230 _ HP1.out).mono ?_
    rintro e' w2 ⟨rfl, hgr2, hP2⟩
    have HP2 := Lib.hid hP2; clear hP2
    go_wp2_with fail
    go_end0
    rw [Hm.out, Hb.out]
    exact ⟨rfl, grown_trans hgr hgr2, HP2.out⟩
  · have Hb := Lib.hid hb; clear hb
    go_wp2_with fail
    go_end0
    rw [Hm.out, Hb.out]
    exact ⟨rfl, hgr, HP1.out⟩
end Go.Proofs.Ytmjpecjciibngaa
