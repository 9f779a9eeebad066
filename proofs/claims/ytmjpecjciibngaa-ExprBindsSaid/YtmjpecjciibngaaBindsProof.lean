/- ExprBinds: for all lists of signs and variables the law returns true, and the input reads as it did. No condition. -/
import Derived.Test.YtmjpecjciibngaaRows
import Derived.WalkKit
import Derived.ProofKit
import Derived.OpenShut
import Derived.Test.YtmjpecjciibngaaBinds3
import Derived.Test.YtmjpecjciibngaaReads
namespace Go.Proofs.Ytmjpecjciibngaa.exprBinds
open Go.ChangeShapes Go.WideShapes Go.ChangeAt Go.RowKit
set_option linter.unusedVariables false

theorem own : ownKnob Try.prog.godebug = none := by kernel_rfl

/-- A list of bytes that came in. -/
theorem bytes_in {H : Type} {enc : TypeId × Value → H} {W : World} {v : Value} {d : DataW H} {ps : List MemPlace} {sp : Nat → Bool} {base : Nat} (h : DataW.Trod enc Try.prog W 0 sp true 22 v d ps) (hv : Value.okWide Try.prog W .any base 22 v) :
    ∃ l : List Nat, BytesV W v l ∧ l.length ≤ 9223372036854775807 := by
  obtain ⟨a0, len, cap, rfl⟩ := okWide_slice Try.underlying22 hv
  obtain ⟨fuel, hf⟩ := h
  rcases open_ints Try.underlying22 Try.underlying5 (by kernel_rfl) hf with ⟨hcs, hx⟩ | ⟨a, len', cap', zs, hcs, _, hl, hm, hz, hx, hcell, hwz⟩
  · simp [Value.cells] at hcs
    obtain ⟨rfl, rfl, rfl⟩ := hcs
    exact ⟨[], ⟨none, 0, rfl, fun j x hj => by simp at hj⟩, by simp⟩
  · simp [Value.cells] at hcs
    obtain ⟨rfl, rfl, rfl⟩ := hcs
    have hlz : len ≤ zs.length := by rw [hz]; split <;> omega
    unfold maxLen at hm
    have hnat : ∀ z ∈ zs, 0 ≤ z ∧ z < 256 := fun z hz' => by
      obtain ⟨n, hn, e⟩ := u8_nat (hwz z hz')
      omega
    refine ⟨(zs.take len).map Int.toNat, ⟨some a, cap, by rw [List.length_map, List.length_take, Nat.min_eq_left hlz], fun j x hj => ?_⟩, by rw [List.length_map, List.length_take]; omega⟩
    simp only [List.getElem?_map, Option.map_eq_some_iff] at hj
    obtain ⟨z, hj, rfl⟩ := hj
    have hjl : j < len := by
      rcases Nat.lt_or_ge j len with h | h
      · exact h
      · rw [List.getElem?_eq_none (by rw [List.length_take]; omega)] at hj; cases hj
    rw [List.getElem?_take_of_lt hjl] at hj
    have hz2 := hnat z (List.mem_of_getElem? hj)
    refine ⟨by omega, ?_⟩
    have hc := hcell j (by omega)
    obtain ⟨b, off, spot⟩ := a
    have hspot : spot = none := by simpa [Addr.add] using World.cell?_spot (hcell 0 (by omega))
    subst hspot
    refine ⟨b, off, rfl, ?_⟩
    rw [add_plain] at hc
    rw [hc]
    simp only [List.getD, hj, Option.getD_some]
    congr 2
    omega

theorem walk (v1 v2 : Value) (os vs : List Nat) (w : World) (h1 : BytesV w v1 os) (h2 : BytesV w v2 vs) (hl1 : os.length ≤ 9223372036854775807) (hl2 : vs.length ≤ 9223372036854775807) :
    Calls Try.prog 3 #[v1, v2] w fun e w' => e = .returned (.bool true) ∧ Below w.heap.size w w' := by
  by_cases h : 6 < os.length ∨ vs.length ≤ os.length
  · exact binds_short v1 v2 os vs w h1 h2 hl1 hl2 h
  · exact binds_long v1 v2 os vs w h1 h2 hl2 (by omega) (by omega)

set_option maxRecDepth 100000 in
theorem lifted (os : Os) (started : os.Started) (H : Type) (enc : TypeId × Value → H) :
    ReturnsInHanded {} Try.checked os 3 .any (Rows.exprBindsSpec.pre6 enc Try.prog Try.f3 Rows.exprBindsRow.domain false) (Rows.exprBindsSpec.post enc Try.prog Try.f3 false true false false) := by
  refine returnsInHanded_of_change (C := Try.checked) own started (by kernel_rfl) Try.func3
    (ChangeSpec.witness6 (enc := enc) (C := Try.checked) false ⟨#[], #[.slice none 0 0, .slice none 0 0], []⟩ 8 (by kernel_rfl) (by kernel_rfl) (by kernel_rfl) (by kernel_rfl)) ?_
  intro W base args ds gs before hval0 hW hcnd _
  have hval : ∀ (j : Nat) t v, Try.f3.params[j]? = some t → args[j]? = some v → Value.okWide Try.prog W .any base t v := hval0
  have hW' := hW
  obtain ⟨p, q, hA0, hV, rfl, hfz, hnd⟩ := hW
  have hA : DataW.TrodAll enc Try.prog W 0 (fun _ => true) true Try.f3.params.toList args.toList ds p := hA0
  have hAk := hA
  rw [Try.params3] at hA hval
  obtain ⟨v0, vs0, d0, ds0, p0, q0, hargs, rfl, rfl, h0, r0⟩ := trodAll_cons hA
  obtain ⟨v1, vs1, d1, ds1, p1, q1, rfl, rfl, rfl, h1, r1⟩ := trodAll_cons r0
  obtain ⟨rfl, rfl, rfl⟩ := trodAll_nil r1
  obtain rfl : args = #[v0, v1] := by cases args; simp_all
  obtain ⟨rfl, rfl⟩ := trodVars_none hV
  obtain ⟨l0, hb0, hl0⟩ := bytes_in h0 (hval 0 22 v0 rfl rfl)
  obtain ⟨l1, hb1, hl1⟩ := bytes_in h1 (hval 1 22 v1 rfl rfl)
  clear hA0 hval0
  simp only [List.append_nil] at hW' hAk
  refine (walk v0 v1 l0 l1 W hb0 hb1 hl0 hl1).mono fun e W' ⟨he, hg⟩ => ?_
  subst he
  exact ⟨_, rfl, post_reads kids full (by rw [Try.params3]; decide) hW' rfl hAk (fun _ _ _ => (trodAll_cons_mk (shut_bool Try.underlying4 _) trodAll_mk0)) rfl rfl hg
    (ok_one (by kernel_rfl) rfl (okWide_bool_mk Try.underlying4 _))⟩

theorem over : Rows.exprBindsRow.holds Try.pinned (OpenSpec.ofChange Rows.exprBindsSpec) :=
  OpenClaim.holds_of_wide 3 Try.f3 rfl rfl rfl rfl rfl rfl rfl ⟨rfl, rfl, rfl, rfl, rfl⟩ rfl rfl rfl rfl rfl (by kernel_rfl) Try.func3 (by kernel_rfl)
    (of_decide_eq_true (by kernel_rfl)) (by unfold Func.isWrapper; first | (rw [if_pos (by decide +kernel)]; kernel_rfl) | (rw [if_neg (by decide +kernel)]; exact ⟨rfl, rfl⟩))
    (fun os started H enc _ => lifted os started H enc)

/-- ████ THE STATEMENT ████ -/
theorem proved : Rows.ExprBindsSaid :=
  over
#print axioms proved
end Go.Proofs.Ytmjpecjciibngaa.exprBinds
