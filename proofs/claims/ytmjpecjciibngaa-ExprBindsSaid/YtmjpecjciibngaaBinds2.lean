/- ExprBinds: the walk (in work). -/
import Derived.Test.YtmjpecjciibngaaFlat6
namespace Go.Proofs.Ytmjpecjciibngaa
open Go.RowKit
set_option linter.unusedVariables false

/-- The cells of the tables of a row of formulas. -/
def tabRow (ts : List Tree) : List Value := ts.flatMap fun t => (tabCells (tb t)).toList
theorem tabRow_len : ∀ ts : List Tree, (tabRow ts).length = ts.length * 4
  | [] => rfl
  | t :: ts => by
    have := tabRow_len ts
    simp only [tabRow, List.flatMap_cons, List.length_append] at this ⊢
    rw [this]
    simp; omega
theorem tabRow_app (a b : List Tree) : tabRow (a ++ b) = tabRow a ++ tabRow b := by simp [tabRow]
theorem tabRow_get : ∀ (ts : List Tree) (i : Nat) (t : Tree), ts[i]? = some t → (tabRow ts)[i * 4]? = some (.int .u64 (wd (tb t) 0 : Nat)) ∧ (tabRow ts)[i * 4 + 1]? = some (.int .u64 (wd (tb t) 1 : Nat)) ∧ (tabRow ts)[i * 4 + 2]? = some (.int .u64 (wd (tb t) 2 : Nat)) ∧ (tabRow ts)[i * 4 + 3]? = some (.int .u64 (wd (tb t) 3 : Nat))
  | [], i, t, h => by simp at h
  | u :: ts, 0, t, h => by cases h; exact ⟨rfl, rfl, rfl, rfl⟩
  | u :: ts, i + 1, t, h => by
    have := tabRow_get ts i t (by simpa using h)
    have e : ∀ j, (tabRow (u :: ts))[(i + 1) * 4 + j]? = (tabRow ts)[i * 4 + j]? := fun j => by
      rw [show tabRow (u :: ts) = (tabCells (tb u)).toList ++ tabRow ts from rfl, List.getElem?_append_right (by simp; omega)]
      congr 1
      simp; omega
    exact ⟨(e 0).trans this.1, (e 1).trans this.2.1, (e 2).trans this.2.2.1, (e 3).trans this.2.2.2⟩
theorem tabInfo : (Try.prog.info? 29).map (fun i => (i.zero, i.size, i.bytes)) = some (some (.agg zeroTab), 4, 32) := by kernel_rfl
theorem intInfo : (Try.prog.info? 3).map (fun i => (i.zero, i.size, i.bytes)) = some (some (.int .i64 0), 1, 8) := by kernel_rfl
/-- The value is a list of bytes l, in memory, to be read. -/
def BytesV (w : World) (v : Value) (l : List Nat) : Prop :=
  ∃ A c, v = .slice A l.length c ∧ ∀ (j x : Nat), l[j]? = some x → x < 256 ∧ ∃ g o, A = some ⟨g, o, none⟩ ∧ w.cell? ⟨g, o + j, none⟩ = some (.int .u8 (x : Int))
set_option maxRecDepth 100000 in
set_option maxHeartbeats 2000000 in
/-- The law's short ways out. -/
theorem binds_short (v1 v2 : Value) (os vs : List Nat) (w : World) (h1 : BytesV w v1 os) (h2 : BytesV w v2 vs) (hl1 : os.length ≤ 9223372036854775807) (hl2 : vs.length ≤ 9223372036854775807) (h : 6 < os.length ∨ vs.length ≤ os.length) :
    Calls Try.prog 3 #[v1, v2] w fun e w' => e = .returned (.bool true) ∧ Below w.heap.size w w' := by
  obtain ⟨A, c, rfl, hA⟩ := h1
  obtain ⟨A', c', rfl, hA'⟩ := h2
  generalize os.length = n at *
  generalize vs.length = n' at *
  clear hA hA'
  cases h6 : decide ((6 : Int) < (n : Int))
  · have hle2 : n' ≤ n := by
      simp only [decide_eq_false_iff_not] at h6; omega
    have hle : decide ((n' : Int) ≤ (n : Int)) = true := by simp; omega
    clear h
    go_enter Try.func3, Try.ntmps3
    go_wp2_with fail
    refine (known_any _).mono ?_
    rintro e w1 ⟨rfl, hb1⟩
    go_wp2_with fail
    go_ret
    exact ⟨rfl, hb1⟩
  · go_enter Try.func3, Try.ntmps3
    go_wp2_with fail
    refine (known_any _).mono ?_
    rintro e w1 ⟨rfl, hb1⟩
    go_wp2_with fail
    go_ret
    exact ⟨rfl, hb1⟩
end Go.Proofs.Ytmjpecjciibngaa
