/- Bytes that a call owns; digit. -/
import Derived.Test.YtmjpecjciibngaaFun
import Derived.Test.YtmjpecjciibngaaRd8
import Derived.Laws.IdiomStrings
import Derived.Lib.AppendStr
import Derived.Deep.AppendLies
import Derived.Deep.RegionHeld3
namespace Go.Proofs.Ytmjpecjciibngaa
open Go.RowKit
set_option linter.unusedVariables false

def OwnB (w : World) (B : Nat) (v : Value) (s : Bs) : Prop := w.ownsRow B 5 1 v s.length (Lib.strCells (str s))
theorem strCells_app (s t : Bs) : Lib.strCells (str (s ++ t)) = Lib.strCells (str s) ++ Lib.strCells (str t) := by simp [Lib.strCells, str]
theorem byteInfo : (Try.prog.info? 5).map (fun i => (i.zero, i.size, i.bytes)) = some (some (.int .u8 0), 1, 1) := by kernel_rfl
theorem OwnB.nil (w : World) (B : Nat) : OwnB w B (.slice none 0 0) [] := World.ownsRow_nil _ _ _ _
/-- The two values own the same block, or the second a block that was made since. -/
def Lies (H : Nat) (v v' : Value) : Prop := v'.ownBlock = v.ownBlock ∨ ∃ g, v'.ownBlock = some g ∧ H ≤ g
theorem Lies.refl (H : Nat) (v : Value) : Lies H v v := .inl rfl
theorem Lies.trans {H H' : Nat} {a b c : Value} (h : Lies H a b) (k : Lies H' b c) (hH : H ≤ H') : Lies H a c := by
  rcases k with k | ⟨g, k, hg⟩
  · rcases h with h | ⟨g, h, hg⟩
    · exact .inl (k.trans h)
    · exact .inr ⟨g, k.trans h, hg⟩
  · exact .inr ⟨g, k, by omega⟩
/-- What appending to bytes of the call's own leaves: v' owns s, and nothing but v's own row is other than it was. -/
def Puts (B : Nat) (v : Value) (w : World) (v' : Value) (s : Bs) (w' : World) : Prop := OwnB w' B v' s ∧ w.grownBy w' v.ownBlock ∧ Lies w.heap.size v v'

theorem run_append_text (w : World) (B : Nat) (ty : TypeId) (v : Value) (s t : Bs) (h : OwnB w B v s) (hB : B ≤ w.heap.size) (hl : s.length + t.length ≤ 1000000000) :
    ∃ v' w', (Builtin.append_ #[22, 9] ty #[v, .string (str t)]).run Try.prog w = .ok v' w' ∧ Puts B v w v' (s ++ t) w' := by
  obtain ⟨i0, hi0, hz0, hz1, hz2⟩ := info_parts byteInfo
  have ht : (str t).size = t.length := rfl
  obtain ⟨v', w', hr, h2, h3, h4⟩ := Lib.run_append_own_string (P := Try.prog) w B 22 9 ty 5 i0 Try.underlying22 Try.underlying9 hi0 hz0 hz1 hz2 v s.length _ h (str t) (by rw [ht]; unfold maxLen; omega) (by rw [ht]; omega) hB
  refine ⟨v', w', hr, ?_, h3, ?_⟩
  · unfold OwnB
    rw [strCells_app, List.length_append]
    exact h2
  · rcases h.2 with ⟨rfl, hn⟩ | ⟨g, cap, cur, rfl, hb, hg, hnc, hcm, hcs, htk⟩
    · obtain ⟨v2, w2, hr2, h5, _⟩ := Lib.run_append_own_string (P := Try.prog) w w.heap.size 22 9 ty 5 i0 Try.underlying22 Try.underlying9 hi0 hz0 hz1 hz2 (.slice none 0 0) 0 [] (World.ownsRow_nil _ _ _ _) (str t) (by rw [ht]; unfold maxLen; omega) (by rw [ht]; omega) (Nat.le_refl _)
      rw [hr] at hr2
      injection hr2 with e1 e2
      subst e1; subst e2
      cases hv : v'.ownBlock with
      | none => exact .inl (by rw [hv]; rfl)
      | some g => exact .inr ⟨g, hv, (h5.lt g hv).1⟩
    · by_cases hroom : s.length + (str t).size ≤ cap
      · have hr2 := Lib.run_append_room_string (P := Try.prog) w 22 9 ty 5 i0 Try.underlying22 Try.underlying9 hi0 hz1 g s.length cap cur hg (str t) hroom (by rw [hcs]; omega)
        rw [hr] at hr2
        injection hr2 with e1 e2
        subst e1
        exact .inl rfl
      · have hr2 := Lib.run_append_grow_string (P := Try.prog) w 22 9 ty 5 i0 (.int .u8 0) Try.underlying22 Try.underlying9 hi0 hz0 ⟨g, 0, none⟩ s.length cap _ (by rw [hz1]; exact h.1) (h.cells (g := g) rfl) (str t) (by omega) (by rw [ht]; omega) (by rw [hz2]; exact growslice_fits (by omega) (by rw [ht]; omega))
        rw [hr] at hr2
        injection hr2 with e1 e2
        subst e1
        exact .inr ⟨_, rfl, Nat.le_refl _⟩

def dg (v : Nat) : UInt8 := UInt8.ofNat (48 + v)
set_option maxRecDepth 100000 in
set_option maxHeartbeats 1000000 in
theorem digit_any (v : Nat) (hv : v < 10) (w : World) : Calls Try.prog 54 #[.int .i64 (v : Int)] w fun e w' => e = .returned (.string (str [dg v])) ∧ Below w.heap.size w w' := by
  have hv0 : (0 : Int) ≤ (v : Int) := by omega
  have hk : (convert 22 9 (.slice (some ⟨w.heap.size, 0, none⟩) 1 1)).run Try.prog (w.alloc (.cells #[.int .u8 (48 + (v : Int))] 5)) = .ok (.string (str [dg v])) (w.alloc (.cells #[.int .u8 (48 + (v : Int))] 5)) :=
    run_convert_bytes_back _ 22 9 5 ⟨w.heap.size, 0, none⟩ 1 [dg v] Try.underlying22 Try.underlying5 Try.underlying9 fun j hj => by
      have : j = 0 := by simpa using hj
      subst this
      have := (Blk.new w 5 #[.int .u8 (48 + (v : Int))]).cell 0
      rw [show (⟨w.heap.size, 0, none⟩ : Addr).add 0 = ⟨w.heap.size, 0, none⟩ from rfl, this]
      have h2 : (48 + v) % 256 = 48 + v := by omega
      simp [dg, UInt8.toNat_ofNat', h2]
  go_enter Try.func54, Try.ntmps54
  go_wp2_with fail
  go_ret
  exact ⟨rfl, below1 _ _⟩
end Go.Proofs.Ytmjpecjciibngaa
