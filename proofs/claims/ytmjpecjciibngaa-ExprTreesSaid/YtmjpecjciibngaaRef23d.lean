/- The reference's Print. -/
import Derived.Test.YtmjpecjciibngaaBRfa
namespace Go.Proofs.Ytmjpecjciibngaa
open Go.RowKit
set_option linter.unusedVariables false

def PrC (t : Tree) : Prop := ∀ (ok : Nat → Prop) (x : Value) (w : World), (printT t).length ≤ 1000000 → ExprV ok w t x → Calls Try.prog 21 #[x] w fun e w' => e = .returned (.string (str (printT t))) ∧ Below w.heap.size w w'
theorem PrC.call {t : Tree} (h : PrC t) (ok : Nat → Prop) (x : Value) (w : World) (hl : (printT t).length ≤ 1000000) (hE : ExprV ok w t x) : Calls Try.prog 21 #[x] w fun e w' => e = .returned (.string (str (printT t))) ∧ Below w.heap.size w w' := h ok x w hl hE
/-- The digit, as a string. -/
theorem digit_conv (w : World) (o : Obj) (u : Nat) (hu : u < 10) : (convert 22 9 (.slice (some ⟨w.heap.size + 1, 0, none⟩) 1 1)).run Try.prog ((w.alloc o).alloc (.cells #[.int .u8 (48 + (u : Int))] 5)) = .ok (.string (str [dg u])) ((w.alloc o).alloc (.cells #[.int .u8 (48 + (u : Int))] 5)) :=
  run_convert_bytes_back _ 22 9 5 ⟨w.heap.size + 1, 0, none⟩ 1 [dg u] Try.underlying22 Try.underlying5 Try.underlying9 fun j hj => by
    have : j = 0 := by simpa using hj
    subst this
    have := (Blk.new1 w o 5 #[.int .u8 (48 + (u : Int))]).cell 0
    rw [show (⟨w.heap.size + 1, 0, none⟩ : Addr).add 0 = ⟨w.heap.size + 1, 0, none⟩ from rfl, this]
    have h2 : (48 + u) % 256 = 48 + u := by omega
    simp [dg, UInt8.toNat_ofNat', h2]
theorem tmod10 (u : Nat) (hu : u < 10) : (u : Int).tmod 10 = (u : Int) := by rw [Int.tmod_eq_emod_of_nonneg (by omega)]; omega

set_option maxRecDepth 100000 in
set_option maxHeartbeats 2000000 in
theorem rp_var (a : Int) (u : Nat) (hu : u < 8)  : PrC (.node 1 a (u : Int) []) := by
  intro ok x w hl hE
  unfold ExprV at hE
  obtain ⟨A, c, rfl, hK⟩ := hE
  have hp : printT (.node 1 a (u : Int) []) = [118, dg u] := by simp [printT, nodeB]
  rw [hp] at hl ⊢
  have hk := digit_conv w (.cells #[.int .i64 1, .int .i64 a, .int .i64 (u : Int), .slice A 0 c] 36) u (by omega)
  have hm := tmod10 u (by omega)
  obtain ⟨W, hW⟩ : ∃ W : World, W = ((w.alloc (.cells #[.int .i64 1, .int .i64 a, .int .i64 (u : Int), .slice A 0 c] 36)).alloc (.cells #[.int .u8 (48 + (u : Int))] 5)).alloc (.cells #[.string ⟨#[38]⟩, .string ⟨#[124]⟩, .string ⟨#[94]⟩, .string ⟨#[45, 62]⟩, .string ⟨#[60, 45, 62]⟩] 24) := ⟨_, rfl⟩
  have HB := Lib.hid (show Below w.heap.size w W from hW ▸ below3 w _ _ _)
  have HX := Lib.hid (show Blk W w.heap.size 36 #[.int .i64 1, .int .i64 a, .int .i64 (u : Int), .slice A 0 c] from hW ▸ ((Blk.new w _ _).alloc _).alloc _)
  have HSg := Lib.hid (show Blk W (w.heap.size + 1 + 1) 24 #[.string ⟨#[38]⟩, .string ⟨#[124]⟩, .string ⟨#[94]⟩, .string ⟨#[45, 62]⟩, .string ⟨#[60, 45, 62]⟩] from hW ▸ Blk.new2 w _ _ _ _)
  have hcat : ∀ x y : Bs, str x ++ str y = str (x ++ y) := str_cat
  have hsize : ∀ x : Bs, (str x).size = x.length := size_str
  have lt0 : (⟨#[118]⟩ : ByteArray) = str [118] := rfl
  subst hW
  clear hK  hp hl
  go_enter Try.func21, Try.ntmps21
  go_wp2_with fail
  go_ret
  exact ⟨by simp, HB.out⟩

set_option maxRecDepth 100000 in
set_option maxHeartbeats 2000000 in
theorem rp_const (a : Int) (u : Nat) (hu : u < 8)  : PrC (.node 2 a (u : Int) []) := by
  intro ok x w hl hE
  unfold ExprV at hE
  obtain ⟨A, c, rfl, hK⟩ := hE
  have hp : printT (.node 2 a (u : Int) []) = [dg u] := by simp [printT, nodeB]
  rw [hp] at hl ⊢
  have hk := digit_conv w (.cells #[.int .i64 2, .int .i64 a, .int .i64 (u : Int), .slice A 0 c] 36) u (by omega)
  have hm := tmod10 u (by omega)
  obtain ⟨W, hW⟩ : ∃ W : World, W = ((w.alloc (.cells #[.int .i64 2, .int .i64 a, .int .i64 (u : Int), .slice A 0 c] 36)).alloc (.cells #[.int .u8 (48 + (u : Int))] 5)).alloc (.cells #[.string ⟨#[38]⟩, .string ⟨#[124]⟩, .string ⟨#[94]⟩, .string ⟨#[45, 62]⟩, .string ⟨#[60, 45, 62]⟩] 24) := ⟨_, rfl⟩
  have HB := Lib.hid (show Below w.heap.size w W from hW ▸ below3 w _ _ _)
  have HX := Lib.hid (show Blk W w.heap.size 36 #[.int .i64 2, .int .i64 a, .int .i64 (u : Int), .slice A 0 c] from hW ▸ ((Blk.new w _ _).alloc _).alloc _)
  have HSg := Lib.hid (show Blk W (w.heap.size + 1 + 1) 24 #[.string ⟨#[38]⟩, .string ⟨#[124]⟩, .string ⟨#[94]⟩, .string ⟨#[45, 62]⟩, .string ⟨#[60, 45, 62]⟩] from hW ▸ Blk.new2 w _ _ _ _)
  have hcat : ∀ x y : Bs, str x ++ str y = str (x ++ y) := str_cat
  have hsize : ∀ x : Bs, (str x).size = x.length := size_str
  subst hW
  clear hK  hp hl
  go_enter Try.func21, Try.ntmps21
  go_wp2_with fail
  go_ret
  exact ⟨by simp, HB.out⟩

set_option maxRecDepth 100000 in
set_option maxHeartbeats 2000000 in
theorem rp_not (a : Int) (u : Nat) (hu : u < 8) (t1 : Tree) (h1 : PrC t1) : PrC (.node 3 a (u : Int) [t1]) := by
  intro ok x w hl hE
  unfold ExprV at hE
  obtain ⟨A, c, rfl, hK⟩ := hE
  have hp : printT (.node 3 a (u : Int) [t1]) = [33, 40] ++ printT t1 ++ [41] := by simp [printT, printL, nodeB, nthB, inB]
  rw [hp] at hl ⊢
  have hl1 : (printT t1).length ≤ 1000000 := by simp at hl; omega
  have hk := digit_conv w (.cells #[.int .i64 3, .int .i64 a, .int .i64 (u : Int), .slice A 1 c] 36) u (by omega)
  have hm := tmod10 u (by omega)
  obtain ⟨W, hW⟩ : ∃ W : World, W = ((w.alloc (.cells #[.int .i64 3, .int .i64 a, .int .i64 (u : Int), .slice A 1 c] 36)).alloc (.cells #[.int .u8 (48 + (u : Int))] 5)).alloc (.cells #[.string ⟨#[38]⟩, .string ⟨#[124]⟩, .string ⟨#[94]⟩, .string ⟨#[45, 62]⟩, .string ⟨#[60, 45, 62]⟩] 24) := ⟨_, rfl⟩
  have HB := Lib.hid (show Below w.heap.size w W from hW ▸ below3 w _ _ _)
  have HX := Lib.hid (show Blk W w.heap.size 36 #[.int .i64 3, .int .i64 a, .int .i64 (u : Int), .slice A 1 c] from hW ▸ ((Blk.new w _ _).alloc _).alloc _)
  have HSg := Lib.hid (show Blk W (w.heap.size + 1 + 1) 24 #[.string ⟨#[38]⟩, .string ⟨#[124]⟩, .string ⟨#[94]⟩, .string ⟨#[45, 62]⟩, .string ⟨#[60, 45, 62]⟩] from hW ▸ Blk.new2 w _ _ _ _)
  have hKW : KidsV ok W [t1] A 0 := KidsV.of_cells (fun p _ _ hc => (HB.out.cell (World.block_lt_of_cell? _ _ hc)).trans hc) [t1] A 0 hK
  obtain ⟨g, o, k1, a1, v1, A1, n1, c1, rfl, gl1, q10, q11, q12, q13, hE1⟩ := KidsV.get _ _ 0 t1 hKW rfl
  simp only [Nat.zero_mul, Nat.add_zero, Nat.zero_add] at q10 q11 q12 q13
  have HE1 := Lib.hid hE1; have H1 := Lib.hid h1
  clear hKW hE1
  have gw := World.block_lt_of_cell? _ _ q10
  simp only at gw
  have hcat : ∀ x y : Bs, str x ++ str y = str (x ++ y) := str_cat
  have hsize : ∀ x : Bs, (str x).size = x.length := size_str
  have lt0 : (⟨#[33, 40]⟩ : ByteArray) = str [33, 40] := rfl
  have lt1 : (⟨#[41]⟩ : ByteArray) = str [41] := rfl
  subst hW
  clear hK h1 hp hl
  go_enter Try.func21, Try.ntmps21
  go_wp2_with fail
  refine (H1.out.call ok _ _ (by omega) HE1.out).mono ?_
  rintro e w1 ⟨rfl, hb1⟩
  have HBf := Lib.hid (HB.out.step hb1)
  clear hb1
  go_wp2_with fail
  go_ret
  exact ⟨by simp, HBf.out⟩

set_option maxRecDepth 100000 in
set_option maxHeartbeats 2000000 in
theorem rp_all (a : Int) (u : Nat) (hu : u < 8) (t1 : Tree) (h1 : PrC t1) : PrC (.node 10 a (u : Int) [t1]) := by
  intro ok x w hl hE
  unfold ExprV at hE
  obtain ⟨A, c, rfl, hK⟩ := hE
  have hp : printT (.node 10 a (u : Int) [t1]) = [97, 108, 108, 32, 118] ++ [dg u] ++ [32, 40] ++ printT t1 ++ [41] := by simp [printT, printL, nodeB, nthB, inB]
  rw [hp] at hl ⊢
  have hl1 : (printT t1).length ≤ 1000000 := by simp at hl; omega
  have hk := digit_conv w (.cells #[.int .i64 10, .int .i64 a, .int .i64 (u : Int), .slice A 1 c] 36) u (by omega)
  have hm := tmod10 u (by omega)
  obtain ⟨W, hW⟩ : ∃ W : World, W = ((w.alloc (.cells #[.int .i64 10, .int .i64 a, .int .i64 (u : Int), .slice A 1 c] 36)).alloc (.cells #[.int .u8 (48 + (u : Int))] 5)).alloc (.cells #[.string ⟨#[38]⟩, .string ⟨#[124]⟩, .string ⟨#[94]⟩, .string ⟨#[45, 62]⟩, .string ⟨#[60, 45, 62]⟩] 24) := ⟨_, rfl⟩
  have HB := Lib.hid (show Below w.heap.size w W from hW ▸ below3 w _ _ _)
  have HX := Lib.hid (show Blk W w.heap.size 36 #[.int .i64 10, .int .i64 a, .int .i64 (u : Int), .slice A 1 c] from hW ▸ ((Blk.new w _ _).alloc _).alloc _)
  have HSg := Lib.hid (show Blk W (w.heap.size + 1 + 1) 24 #[.string ⟨#[38]⟩, .string ⟨#[124]⟩, .string ⟨#[94]⟩, .string ⟨#[45, 62]⟩, .string ⟨#[60, 45, 62]⟩] from hW ▸ Blk.new2 w _ _ _ _)
  have hKW : KidsV ok W [t1] A 0 := KidsV.of_cells (fun p _ _ hc => (HB.out.cell (World.block_lt_of_cell? _ _ hc)).trans hc) [t1] A 0 hK
  obtain ⟨g, o, k1, a1, v1, A1, n1, c1, rfl, gl1, q10, q11, q12, q13, hE1⟩ := KidsV.get _ _ 0 t1 hKW rfl
  simp only [Nat.zero_mul, Nat.add_zero, Nat.zero_add] at q10 q11 q12 q13
  have HE1 := Lib.hid hE1; have H1 := Lib.hid h1
  clear hKW hE1
  have gw := World.block_lt_of_cell? _ _ q10
  simp only at gw
  have hcat : ∀ x y : Bs, str x ++ str y = str (x ++ y) := str_cat
  have hsize : ∀ x : Bs, (str x).size = x.length := size_str
  have lt0 : (⟨#[97, 108, 108, 32, 118]⟩ : ByteArray) = str [97, 108, 108, 32, 118] := rfl
  have lt1 : (⟨#[32, 40]⟩ : ByteArray) = str [32, 40] := rfl
  have lt2 : (⟨#[41]⟩ : ByteArray) = str [41] := rfl
  subst hW
  clear hK h1 hp hl
  go_enter Try.func21, Try.ntmps21
  go_wp2_with fail
  refine (H1.out.call ok _ _ (by omega) HE1.out).mono ?_
  rintro e w1 ⟨rfl, hb1⟩
  have HBf := Lib.hid (HB.out.step hb1)
  clear hb1
  go_wp2_with fail
  go_ret
  exact ⟨by simp, HBf.out⟩

set_option maxRecDepth 100000 in
set_option maxHeartbeats 2000000 in
theorem rp_any (a : Int) (u : Nat) (hu : u < 8) (t1 : Tree) (h1 : PrC t1) : PrC (.node 11 a (u : Int) [t1]) := by
  intro ok x w hl hE
  unfold ExprV at hE
  obtain ⟨A, c, rfl, hK⟩ := hE
  have hp : printT (.node 11 a (u : Int) [t1]) = [97, 110, 121, 32, 118] ++ [dg u] ++ [32, 40] ++ printT t1 ++ [41] := by simp [printT, printL, nodeB, nthB, inB]
  rw [hp] at hl ⊢
  have hl1 : (printT t1).length ≤ 1000000 := by simp at hl; omega
  have hk := digit_conv w (.cells #[.int .i64 11, .int .i64 a, .int .i64 (u : Int), .slice A 1 c] 36) u (by omega)
  have hm := tmod10 u (by omega)
  obtain ⟨W, hW⟩ : ∃ W : World, W = ((w.alloc (.cells #[.int .i64 11, .int .i64 a, .int .i64 (u : Int), .slice A 1 c] 36)).alloc (.cells #[.int .u8 (48 + (u : Int))] 5)).alloc (.cells #[.string ⟨#[38]⟩, .string ⟨#[124]⟩, .string ⟨#[94]⟩, .string ⟨#[45, 62]⟩, .string ⟨#[60, 45, 62]⟩] 24) := ⟨_, rfl⟩
  have HB := Lib.hid (show Below w.heap.size w W from hW ▸ below3 w _ _ _)
  have HX := Lib.hid (show Blk W w.heap.size 36 #[.int .i64 11, .int .i64 a, .int .i64 (u : Int), .slice A 1 c] from hW ▸ ((Blk.new w _ _).alloc _).alloc _)
  have HSg := Lib.hid (show Blk W (w.heap.size + 1 + 1) 24 #[.string ⟨#[38]⟩, .string ⟨#[124]⟩, .string ⟨#[94]⟩, .string ⟨#[45, 62]⟩, .string ⟨#[60, 45, 62]⟩] from hW ▸ Blk.new2 w _ _ _ _)
  have hKW : KidsV ok W [t1] A 0 := KidsV.of_cells (fun p _ _ hc => (HB.out.cell (World.block_lt_of_cell? _ _ hc)).trans hc) [t1] A 0 hK
  obtain ⟨g, o, k1, a1, v1, A1, n1, c1, rfl, gl1, q10, q11, q12, q13, hE1⟩ := KidsV.get _ _ 0 t1 hKW rfl
  simp only [Nat.zero_mul, Nat.add_zero, Nat.zero_add] at q10 q11 q12 q13
  have HE1 := Lib.hid hE1; have H1 := Lib.hid h1
  clear hKW hE1
  have gw := World.block_lt_of_cell? _ _ q10
  simp only at gw
  have hcat : ∀ x y : Bs, str x ++ str y = str (x ++ y) := str_cat
  have hsize : ∀ x : Bs, (str x).size = x.length := size_str
  have lt0 : (⟨#[97, 110, 121, 32, 118]⟩ : ByteArray) = str [97, 110, 121, 32, 118] := rfl
  have lt1 : (⟨#[32, 40]⟩ : ByteArray) = str [32, 40] := rfl
  have lt2 : (⟨#[41]⟩ : ByteArray) = str [41] := rfl
  subst hW
  clear hK h1 hp hl
  go_enter Try.func21, Try.ntmps21
  go_wp2_with fail
  refine (H1.out.call ok _ _ (by omega) HE1.out).mono ?_
  rintro e w1 ⟨rfl, hb1⟩
  have HBf := Lib.hid (HB.out.step hb1)
  clear hb1
  go_wp2_with fail
  go_ret
  exact ⟨by simp, HBf.out⟩

set_option maxRecDepth 100000 in
set_option maxHeartbeats 2000000 in
theorem rp_ite (a : Int) (u : Nat) (hu : u < 8) (t1 : Tree) (h1 : PrC t1) (t2 : Tree) (h2 : PrC t2) (t3 : Tree) (h3 : PrC t3) : PrC (.node 9 a (u : Int) [t1, t2, t3]) := by
  intro ok x w hl hE
  unfold ExprV at hE
  obtain ⟨A, c, rfl, hK⟩ := hE
  have hp : printT (.node 9 a (u : Int) [t1, t2, t3]) = [105, 116, 101, 40, 40] ++ printT t1 ++ [41, 44, 32, 40] ++ printT t2 ++ [41, 44, 32, 40] ++ printT t3 ++ [41, 41] := by simp [printT, printL, nodeB, nthB, inB]
  rw [hp] at hl ⊢
  have hl1 : (printT t1).length + (printT t2).length + (printT t3).length ≤ 1000000 := by simp at hl; omega
  have hk := digit_conv w (.cells #[.int .i64 9, .int .i64 a, .int .i64 (u : Int), .slice A 3 c] 36) u (by omega)
  have hm := tmod10 u (by omega)
  obtain ⟨W, hW⟩ : ∃ W : World, W = ((w.alloc (.cells #[.int .i64 9, .int .i64 a, .int .i64 (u : Int), .slice A 3 c] 36)).alloc (.cells #[.int .u8 (48 + (u : Int))] 5)).alloc (.cells #[.string ⟨#[38]⟩, .string ⟨#[124]⟩, .string ⟨#[94]⟩, .string ⟨#[45, 62]⟩, .string ⟨#[60, 45, 62]⟩] 24) := ⟨_, rfl⟩
  have HB := Lib.hid (show Below w.heap.size w W from hW ▸ below3 w _ _ _)
  have HX := Lib.hid (show Blk W w.heap.size 36 #[.int .i64 9, .int .i64 a, .int .i64 (u : Int), .slice A 3 c] from hW ▸ ((Blk.new w _ _).alloc _).alloc _)
  have HSg := Lib.hid (show Blk W (w.heap.size + 1 + 1) 24 #[.string ⟨#[38]⟩, .string ⟨#[124]⟩, .string ⟨#[94]⟩, .string ⟨#[45, 62]⟩, .string ⟨#[60, 45, 62]⟩] from hW ▸ Blk.new2 w _ _ _ _)
  have hKW : KidsV ok W [t1, t2, t3] A 0 := KidsV.of_cells (fun p _ _ hc => (HB.out.cell (World.block_lt_of_cell? _ _ hc)).trans hc) [t1, t2, t3] A 0 hK
  obtain ⟨g, o, k1, a1, v1, A1, n1, c1, rfl, gl1, q10, q11, q12, q13, hE1⟩ := KidsV.get _ _ 0 t1 hKW rfl
  obtain ⟨g2, o2, k2, a2, v2, A2, n2, c2, e2, gl2, q20, q21, q22, q23, hE2⟩ := KidsV.get _ _ 1 t2 hKW rfl
  cases e2
  obtain ⟨g3, o3, k3, a3, v3, A3, n3, c3, e3, gl3, q30, q31, q32, q33, hE3⟩ := KidsV.get _ _ 2 t3 hKW rfl
  cases e3
  simp only [Nat.zero_mul, Nat.add_zero, Nat.zero_add, Nat.one_mul, Nat.reduceMul] at q10 q11 q12 q13 q20 q21 q22 q23 q30 q31 q32 q33
  have HE1 := Lib.hid hE1; have H1 := Lib.hid h1; have HE2 := Lib.hid hE2; have H2 := Lib.hid h2; have HE3 := Lib.hid hE3; have H3 := Lib.hid h3
  clear hKW hE1 hE2 hE3
  have gw := World.block_lt_of_cell? _ _ q10
  simp only at gw
  have hcat : ∀ x y : Bs, str x ++ str y = str (x ++ y) := str_cat
  have hsize : ∀ x : Bs, (str x).size = x.length := size_str
  have lt0 : (⟨#[105, 116, 101, 40, 40]⟩ : ByteArray) = str [105, 116, 101, 40, 40] := rfl
  have lt1 : (⟨#[41, 44, 32, 40]⟩ : ByteArray) = str [41, 44, 32, 40] := rfl
  have lt2 : (⟨#[41, 41]⟩ : ByteArray) = str [41, 41] := rfl
  have m0 : ¬ 9223372036854775807 < 5 + (printT t1).length := by omega
  have m1 : ¬ 9223372036854775807 < (printT t1).length + 1 + 1 + 1 + 1 + 1 + 4 := by omega
  have m2 : ¬ 9223372036854775807 < (printT t1).length + 4 + 1 + 1 + 1 + 1 + 1 + (printT t2).length := by omega
  have m3 : ¬ 9223372036854775807 < (printT t1).length + ((printT t2).length + 1 + 1 + 1 + 1) + 1 + 1 + 1 + 1 + 1 + 4 := by omega
  have m4 : ¬ 9223372036854775807 < (printT t1).length + ((printT t2).length + 4 + 1 + 1 + 1 + 1) + 1 + 1 + 1 + 1 + 1 + (printT t3).length := by omega
  have m5 : ¬ 9223372036854775807 < (printT t1).length + ((printT t2).length + ((printT t3).length + 1 + 1 + 1 + 1) + 1 + 1 + 1 + 1) + 1 + 1 + 1 + 1 + 1 + 2 := by omega
  obtain ⟨⟨x0, x1, x2, x3⟩, _⟩ := HX.out.four
  have lX := HX.out.lt
  have HW := Lib.hid hW
  clear hK h1 h2 h3 hp hl hW
  go_enter Try.func21, Try.ntmps21
  go_wp2_with fail
  rw [← HW.out]
  go_region_held3 (fun w' => W.heap.size ≤ w'.heap.size ∧ ∀ p : Addr, p.block < W.heap.size → w'.cell? p = W.cell? p)
    (first
      | exact ⟨Nat.le_refl _, fun p _ => rfl⟩
      | exact ⟨s11, s12⟩
      | exact ⟨s21, s22⟩
      | exact ⟨s31, s32⟩
      | assumption)
    (first
      | (go_at_call 21; (with_reducible refine (H3.out.call ok _ _ (by omega) (HE3.out.keep B2)).mono ?_); rintro e w3 ⟨rfl, hb3⟩; have B3 := (show Below W.heap.size W w3 from B2.step hb3); have s31 := B3.size; have s32 := fun (p : Addr) (hp : p.block < W.heap.size) => B3.cell hp)
      | (go_at_call 21; (with_reducible refine (H2.out.call ok _ _ (by omega) (HE2.out.keep B1)).mono ?_); rintro e w2 ⟨rfl, hb2⟩; have B2 := (show Below W.heap.size W w2 from B1.step hb2); have s21 := B2.size; have s22 := fun (p : Addr) (hp : p.block < W.heap.size) => B2.cell hp)
      | (go_at_call 21; (with_reducible refine (H1.out.call ok _ _ (by omega) HE1.out.drew).mono ?_); rintro e w1 ⟨rfl, hb1⟩; have B1 := (show Below W.heap.size W w1 from hb1.of_drew); have s11 := B1.size; have s12 := fun (p : Addr) (hp : p.block < W.heap.size) => B1.cell hp))
  have HBf := Lib.hid (HB.out.step B3)
  clear B1 hb1 s11 s12 B2 hb2 s21 s22 B3 hb3 s31 s32
  go_wp2_with fail
  go_ret
  exact ⟨by simp, HBf.out⟩

set_option maxRecDepth 100000 in
set_option maxHeartbeats 2000000 in
theorem rp_4 (a : Int) (u : Nat) (hu : u < 8) (t1 : Tree) (h1 : PrC t1) (t2 : Tree) (h2 : PrC t2) : PrC (.node 4 a (u : Int) [t1, t2]) := by
  intro ok x w hl hE
  unfold ExprV at hE
  obtain ⟨A, c, rfl, hK⟩ := hE
  have hp : printT (.node 4 a (u : Int) [t1, t2]) = [40, 40] ++ printT t1 ++ [41, 32] ++ [38] ++ [32, 40] ++ printT t2 ++ [41, 41] := by simp [printT, printL, nodeB, nthB, inB, sgL]
  rw [hp] at hl ⊢
  have hl1 : (printT t1).length + (printT t2).length ≤ 1000000 := by simp at hl; omega
  have hk := digit_conv w (.cells #[.int .i64 4, .int .i64 a, .int .i64 (u : Int), .slice A 2 c] 36) u (by omega)
  have hm := tmod10 u (by omega)
  obtain ⟨W, hW⟩ : ∃ W : World, W = ((w.alloc (.cells #[.int .i64 4, .int .i64 a, .int .i64 (u : Int), .slice A 2 c] 36)).alloc (.cells #[.int .u8 (48 + (u : Int))] 5)).alloc (.cells #[.string ⟨#[38]⟩, .string ⟨#[124]⟩, .string ⟨#[94]⟩, .string ⟨#[45, 62]⟩, .string ⟨#[60, 45, 62]⟩] 24) := ⟨_, rfl⟩
  have HB := Lib.hid (show Below w.heap.size w W from hW ▸ below3 w _ _ _)
  have HX := Lib.hid (show Blk W w.heap.size 36 #[.int .i64 4, .int .i64 a, .int .i64 (u : Int), .slice A 2 c] from hW ▸ ((Blk.new w _ _).alloc _).alloc _)
  have HSg := Lib.hid (show Blk W (w.heap.size + 1 + 1) 24 #[.string ⟨#[38]⟩, .string ⟨#[124]⟩, .string ⟨#[94]⟩, .string ⟨#[45, 62]⟩, .string ⟨#[60, 45, 62]⟩] from hW ▸ Blk.new2 w _ _ _ _)
  have hKW : KidsV ok W [t1, t2] A 0 := KidsV.of_cells (fun p _ _ hc => (HB.out.cell (World.block_lt_of_cell? _ _ hc)).trans hc) [t1, t2] A 0 hK
  obtain ⟨g, o, k1, a1, v1, A1, n1, c1, rfl, gl1, q10, q11, q12, q13, hE1⟩ := KidsV.get _ _ 0 t1 hKW rfl
  obtain ⟨g2, o2, k2, a2, v2, A2, n2, c2, e2, gl2, q20, q21, q22, q23, hE2⟩ := KidsV.get _ _ 1 t2 hKW rfl
  cases e2
  simp only [Nat.zero_mul, Nat.add_zero, Nat.zero_add, Nat.one_mul] at q10 q11 q12 q13 q20 q21 q22 q23
  have HE1 := Lib.hid hE1; have H1 := Lib.hid h1; have HE2 := Lib.hid hE2; have H2 := Lib.hid h2
  clear hKW hE1 hE2
  have gw := World.block_lt_of_cell? _ _ q10
  simp only at gw
  have hcat : ∀ x y : Bs, str x ++ str y = str (x ++ y) := str_cat
  have hsize : ∀ x : Bs, (str x).size = x.length := size_str
  have lt0 : (⟨#[40, 40]⟩ : ByteArray) = str [40, 40] := rfl
  have lt1 : (⟨#[41, 32]⟩ : ByteArray) = str [41, 32] := rfl
  have lt2 : (⟨#[32, 40]⟩ : ByteArray) = str [32, 40] := rfl
  have lt3 : (⟨#[41, 41]⟩ : ByteArray) = str [41, 41] := rfl
  have m0 : ¬ 9223372036854775807 < 2 + (printT t1).length := by omega
  have m1 : ¬ 9223372036854775807 < (printT t1).length + 1 + 1 + 2 := by omega
  have m2 : ¬ 9223372036854775807 < (printT t1).length + 2 + 1 + 1 + 1 := by omega
  have m3 : ¬ 9223372036854775807 < (printT t1).length + 3 + 1 + 1 + 2 := by omega
  have m4 : ¬ 9223372036854775807 < (printT t1).length + 5 + 1 + 1 + (printT t2).length := by omega
  have m5 : ¬ 9223372036854775807 < (printT t1).length + ((printT t2).length + 1 + 1 + 1 + 1 + 1) + 1 + 1 + 2 := by omega
  obtain ⟨⟨x0, x1, x2, x3⟩, _⟩ := HX.out.four
  have lX := HX.out.lt
  have sc : W.cell? ⟨w.heap.size + 1 + 1, 0, none⟩ = some (.string (str [38])) := HSg.out.cell 0
  have lS := HSg.out.lt
  have wk : IntKind.i64.wrap 0 = 0 := by decide
  have HW := Lib.hid hW
  clear hK h1 h2 hp hl hW
  go_enter Try.func21, Try.ntmps21
  go_wp2_with fail
  rw [← HW.out]
  go_region_held3 (fun w' => W.heap.size ≤ w'.heap.size ∧ ∀ p : Addr, p.block < W.heap.size → w'.cell? p = W.cell? p)
    (first
      | exact ⟨Nat.le_refl _, fun p _ => rfl⟩
      | exact ⟨s11, s12⟩
      | exact ⟨s21, s22⟩
      | assumption)
    (first
      | (go_at_call 21; (with_reducible refine (H2.out.call ok _ _ (by omega) (HE2.out.keep B1)).mono ?_); rintro e w2 ⟨rfl, hb2⟩; have B2 := (show Below W.heap.size W w2 from B1.step hb2); have s21 := B2.size; have s22 := fun (p : Addr) (hp : p.block < W.heap.size) => B2.cell hp)
      | (go_at_call 21; (with_reducible refine (H1.out.call ok _ _ (by omega) HE1.out.drew).mono ?_); rintro e w1 ⟨rfl, hb1⟩; have B1 := (show Below W.heap.size W w1 from hb1.of_drew); have s11 := B1.size; have s12 := fun (p : Addr) (hp : p.block < W.heap.size) => B1.cell hp))
  have HBf := Lib.hid (HB.out.step B2)
  clear B1 hb1 s11 s12 B2 hb2 s21 s22
  go_wp2_with fail
  go_ret
  exact ⟨by simp, HBf.out⟩

set_option maxRecDepth 100000 in
set_option maxHeartbeats 2000000 in
theorem rp_5 (a : Int) (u : Nat) (hu : u < 8) (t1 : Tree) (h1 : PrC t1) (t2 : Tree) (h2 : PrC t2) : PrC (.node 5 a (u : Int) [t1, t2]) := by
  intro ok x w hl hE
  unfold ExprV at hE
  obtain ⟨A, c, rfl, hK⟩ := hE
  have hp : printT (.node 5 a (u : Int) [t1, t2]) = [40, 40] ++ printT t1 ++ [41, 32] ++ [124] ++ [32, 40] ++ printT t2 ++ [41, 41] := by simp [printT, printL, nodeB, nthB, inB, sgL]
  rw [hp] at hl ⊢
  have hl1 : (printT t1).length + (printT t2).length ≤ 1000000 := by simp at hl; omega
  have hk := digit_conv w (.cells #[.int .i64 5, .int .i64 a, .int .i64 (u : Int), .slice A 2 c] 36) u (by omega)
  have hm := tmod10 u (by omega)
  obtain ⟨W, hW⟩ : ∃ W : World, W = ((w.alloc (.cells #[.int .i64 5, .int .i64 a, .int .i64 (u : Int), .slice A 2 c] 36)).alloc (.cells #[.int .u8 (48 + (u : Int))] 5)).alloc (.cells #[.string ⟨#[38]⟩, .string ⟨#[124]⟩, .string ⟨#[94]⟩, .string ⟨#[45, 62]⟩, .string ⟨#[60, 45, 62]⟩] 24) := ⟨_, rfl⟩
  have HB := Lib.hid (show Below w.heap.size w W from hW ▸ below3 w _ _ _)
  have HX := Lib.hid (show Blk W w.heap.size 36 #[.int .i64 5, .int .i64 a, .int .i64 (u : Int), .slice A 2 c] from hW ▸ ((Blk.new w _ _).alloc _).alloc _)
  have HSg := Lib.hid (show Blk W (w.heap.size + 1 + 1) 24 #[.string ⟨#[38]⟩, .string ⟨#[124]⟩, .string ⟨#[94]⟩, .string ⟨#[45, 62]⟩, .string ⟨#[60, 45, 62]⟩] from hW ▸ Blk.new2 w _ _ _ _)
  have hKW : KidsV ok W [t1, t2] A 0 := KidsV.of_cells (fun p _ _ hc => (HB.out.cell (World.block_lt_of_cell? _ _ hc)).trans hc) [t1, t2] A 0 hK
  obtain ⟨g, o, k1, a1, v1, A1, n1, c1, rfl, gl1, q10, q11, q12, q13, hE1⟩ := KidsV.get _ _ 0 t1 hKW rfl
  obtain ⟨g2, o2, k2, a2, v2, A2, n2, c2, e2, gl2, q20, q21, q22, q23, hE2⟩ := KidsV.get _ _ 1 t2 hKW rfl
  cases e2
  simp only [Nat.zero_mul, Nat.add_zero, Nat.zero_add, Nat.one_mul] at q10 q11 q12 q13 q20 q21 q22 q23
  have HE1 := Lib.hid hE1; have H1 := Lib.hid h1; have HE2 := Lib.hid hE2; have H2 := Lib.hid h2
  clear hKW hE1 hE2
  have gw := World.block_lt_of_cell? _ _ q10
  simp only at gw
  have hcat : ∀ x y : Bs, str x ++ str y = str (x ++ y) := str_cat
  have hsize : ∀ x : Bs, (str x).size = x.length := size_str
  have lt0 : (⟨#[40, 40]⟩ : ByteArray) = str [40, 40] := rfl
  have lt1 : (⟨#[41, 32]⟩ : ByteArray) = str [41, 32] := rfl
  have lt2 : (⟨#[32, 40]⟩ : ByteArray) = str [32, 40] := rfl
  have lt3 : (⟨#[41, 41]⟩ : ByteArray) = str [41, 41] := rfl
  have m0 : ¬ 9223372036854775807 < 2 + (printT t1).length := by omega
  have m1 : ¬ 9223372036854775807 < (printT t1).length + 1 + 1 + 2 := by omega
  have m2 : ¬ 9223372036854775807 < (printT t1).length + 2 + 1 + 1 + 1 := by omega
  have m3 : ¬ 9223372036854775807 < (printT t1).length + 3 + 1 + 1 + 2 := by omega
  have m4 : ¬ 9223372036854775807 < (printT t1).length + 5 + 1 + 1 + (printT t2).length := by omega
  have m5 : ¬ 9223372036854775807 < (printT t1).length + ((printT t2).length + 1 + 1 + 1 + 1 + 1) + 1 + 1 + 2 := by omega
  obtain ⟨⟨x0, x1, x2, x3⟩, _⟩ := HX.out.four
  have lX := HX.out.lt
  have sc : W.cell? ⟨w.heap.size + 1 + 1, 1, none⟩ = some (.string (str [124])) := HSg.out.cell 1
  have lS := HSg.out.lt
  have wk : IntKind.i64.wrap 1 = 1 := by decide
  have HW := Lib.hid hW
  clear hK h1 h2 hp hl hW
  go_enter Try.func21, Try.ntmps21
  go_wp2_with fail
  rw [← HW.out]
  go_region_held3 (fun w' => W.heap.size ≤ w'.heap.size ∧ ∀ p : Addr, p.block < W.heap.size → w'.cell? p = W.cell? p)
    (first
      | exact ⟨Nat.le_refl _, fun p _ => rfl⟩
      | exact ⟨s11, s12⟩
      | exact ⟨s21, s22⟩
      | assumption)
    (first
      | (go_at_call 21; (with_reducible refine (H2.out.call ok _ _ (by omega) (HE2.out.keep B1)).mono ?_); rintro e w2 ⟨rfl, hb2⟩; have B2 := (show Below W.heap.size W w2 from B1.step hb2); have s21 := B2.size; have s22 := fun (p : Addr) (hp : p.block < W.heap.size) => B2.cell hp)
      | (go_at_call 21; (with_reducible refine (H1.out.call ok _ _ (by omega) HE1.out.drew).mono ?_); rintro e w1 ⟨rfl, hb1⟩; have B1 := (show Below W.heap.size W w1 from hb1.of_drew); have s11 := B1.size; have s12 := fun (p : Addr) (hp : p.block < W.heap.size) => B1.cell hp))
  have HBf := Lib.hid (HB.out.step B2)
  clear B1 hb1 s11 s12 B2 hb2 s21 s22
  go_wp2_with fail
  go_ret
  exact ⟨by simp, HBf.out⟩

set_option maxRecDepth 100000 in
set_option maxHeartbeats 2000000 in
theorem rp_6 (a : Int) (u : Nat) (hu : u < 8) (t1 : Tree) (h1 : PrC t1) (t2 : Tree) (h2 : PrC t2) : PrC (.node 6 a (u : Int) [t1, t2]) := by
  intro ok x w hl hE
  unfold ExprV at hE
  obtain ⟨A, c, rfl, hK⟩ := hE
  have hp : printT (.node 6 a (u : Int) [t1, t2]) = [40, 40] ++ printT t1 ++ [41, 32] ++ [94] ++ [32, 40] ++ printT t2 ++ [41, 41] := by simp [printT, printL, nodeB, nthB, inB, sgL]
  rw [hp] at hl ⊢
  have hl1 : (printT t1).length + (printT t2).length ≤ 1000000 := by simp at hl; omega
  have hk := digit_conv w (.cells #[.int .i64 6, .int .i64 a, .int .i64 (u : Int), .slice A 2 c] 36) u (by omega)
  have hm := tmod10 u (by omega)
  obtain ⟨W, hW⟩ : ∃ W : World, W = ((w.alloc (.cells #[.int .i64 6, .int .i64 a, .int .i64 (u : Int), .slice A 2 c] 36)).alloc (.cells #[.int .u8 (48 + (u : Int))] 5)).alloc (.cells #[.string ⟨#[38]⟩, .string ⟨#[124]⟩, .string ⟨#[94]⟩, .string ⟨#[45, 62]⟩, .string ⟨#[60, 45, 62]⟩] 24) := ⟨_, rfl⟩
  have HB := Lib.hid (show Below w.heap.size w W from hW ▸ below3 w _ _ _)
  have HX := Lib.hid (show Blk W w.heap.size 36 #[.int .i64 6, .int .i64 a, .int .i64 (u : Int), .slice A 2 c] from hW ▸ ((Blk.new w _ _).alloc _).alloc _)
  have HSg := Lib.hid (show Blk W (w.heap.size + 1 + 1) 24 #[.string ⟨#[38]⟩, .string ⟨#[124]⟩, .string ⟨#[94]⟩, .string ⟨#[45, 62]⟩, .string ⟨#[60, 45, 62]⟩] from hW ▸ Blk.new2 w _ _ _ _)
  have hKW : KidsV ok W [t1, t2] A 0 := KidsV.of_cells (fun p _ _ hc => (HB.out.cell (World.block_lt_of_cell? _ _ hc)).trans hc) [t1, t2] A 0 hK
  obtain ⟨g, o, k1, a1, v1, A1, n1, c1, rfl, gl1, q10, q11, q12, q13, hE1⟩ := KidsV.get _ _ 0 t1 hKW rfl
  obtain ⟨g2, o2, k2, a2, v2, A2, n2, c2, e2, gl2, q20, q21, q22, q23, hE2⟩ := KidsV.get _ _ 1 t2 hKW rfl
  cases e2
  simp only [Nat.zero_mul, Nat.add_zero, Nat.zero_add, Nat.one_mul] at q10 q11 q12 q13 q20 q21 q22 q23
  have HE1 := Lib.hid hE1; have H1 := Lib.hid h1; have HE2 := Lib.hid hE2; have H2 := Lib.hid h2
  clear hKW hE1 hE2
  have gw := World.block_lt_of_cell? _ _ q10
  simp only at gw
  have hcat : ∀ x y : Bs, str x ++ str y = str (x ++ y) := str_cat
  have hsize : ∀ x : Bs, (str x).size = x.length := size_str
  have lt0 : (⟨#[40, 40]⟩ : ByteArray) = str [40, 40] := rfl
  have lt1 : (⟨#[41, 32]⟩ : ByteArray) = str [41, 32] := rfl
  have lt2 : (⟨#[32, 40]⟩ : ByteArray) = str [32, 40] := rfl
  have lt3 : (⟨#[41, 41]⟩ : ByteArray) = str [41, 41] := rfl
  have m0 : ¬ 9223372036854775807 < 2 + (printT t1).length := by omega
  have m1 : ¬ 9223372036854775807 < (printT t1).length + 1 + 1 + 2 := by omega
  have m2 : ¬ 9223372036854775807 < (printT t1).length + 2 + 1 + 1 + 1 := by omega
  have m3 : ¬ 9223372036854775807 < (printT t1).length + 3 + 1 + 1 + 2 := by omega
  have m4 : ¬ 9223372036854775807 < (printT t1).length + 5 + 1 + 1 + (printT t2).length := by omega
  have m5 : ¬ 9223372036854775807 < (printT t1).length + ((printT t2).length + 1 + 1 + 1 + 1 + 1) + 1 + 1 + 2 := by omega
  obtain ⟨⟨x0, x1, x2, x3⟩, _⟩ := HX.out.four
  have lX := HX.out.lt
  have sc : W.cell? ⟨w.heap.size + 1 + 1, 2, none⟩ = some (.string (str [94])) := HSg.out.cell 2
  have lS := HSg.out.lt
  have wk : IntKind.i64.wrap 2 = 2 := by decide
  have HW := Lib.hid hW
  clear hK h1 h2 hp hl hW
  go_enter Try.func21, Try.ntmps21
  go_wp2_with fail
  rw [← HW.out]
  go_region_held3 (fun w' => W.heap.size ≤ w'.heap.size ∧ ∀ p : Addr, p.block < W.heap.size → w'.cell? p = W.cell? p)
    (first
      | exact ⟨Nat.le_refl _, fun p _ => rfl⟩
      | exact ⟨s11, s12⟩
      | exact ⟨s21, s22⟩
      | assumption)
    (first
      | (go_at_call 21; (with_reducible refine (H2.out.call ok _ _ (by omega) (HE2.out.keep B1)).mono ?_); rintro e w2 ⟨rfl, hb2⟩; have B2 := (show Below W.heap.size W w2 from B1.step hb2); have s21 := B2.size; have s22 := fun (p : Addr) (hp : p.block < W.heap.size) => B2.cell hp)
      | (go_at_call 21; (with_reducible refine (H1.out.call ok _ _ (by omega) HE1.out.drew).mono ?_); rintro e w1 ⟨rfl, hb1⟩; have B1 := (show Below W.heap.size W w1 from hb1.of_drew); have s11 := B1.size; have s12 := fun (p : Addr) (hp : p.block < W.heap.size) => B1.cell hp))
  have HBf := Lib.hid (HB.out.step B2)
  clear B1 hb1 s11 s12 B2 hb2 s21 s22
  go_wp2_with fail
  go_ret
  exact ⟨by simp, HBf.out⟩

set_option maxRecDepth 100000 in
set_option maxHeartbeats 2000000 in
theorem rp_7 (a : Int) (u : Nat) (hu : u < 8) (t1 : Tree) (h1 : PrC t1) (t2 : Tree) (h2 : PrC t2) : PrC (.node 7 a (u : Int) [t1, t2]) := by
  intro ok x w hl hE
  unfold ExprV at hE
  obtain ⟨A, c, rfl, hK⟩ := hE
  have hp : printT (.node 7 a (u : Int) [t1, t2]) = [40, 40] ++ printT t1 ++ [41, 32] ++ [45, 62] ++ [32, 40] ++ printT t2 ++ [41, 41] := by simp [printT, printL, nodeB, nthB, inB, sgL]
  rw [hp] at hl ⊢
  have hl1 : (printT t1).length + (printT t2).length ≤ 1000000 := by simp at hl; omega
  have hk := digit_conv w (.cells #[.int .i64 7, .int .i64 a, .int .i64 (u : Int), .slice A 2 c] 36) u (by omega)
  have hm := tmod10 u (by omega)
  obtain ⟨W, hW⟩ : ∃ W : World, W = ((w.alloc (.cells #[.int .i64 7, .int .i64 a, .int .i64 (u : Int), .slice A 2 c] 36)).alloc (.cells #[.int .u8 (48 + (u : Int))] 5)).alloc (.cells #[.string ⟨#[38]⟩, .string ⟨#[124]⟩, .string ⟨#[94]⟩, .string ⟨#[45, 62]⟩, .string ⟨#[60, 45, 62]⟩] 24) := ⟨_, rfl⟩
  have HB := Lib.hid (show Below w.heap.size w W from hW ▸ below3 w _ _ _)
  have HX := Lib.hid (show Blk W w.heap.size 36 #[.int .i64 7, .int .i64 a, .int .i64 (u : Int), .slice A 2 c] from hW ▸ ((Blk.new w _ _).alloc _).alloc _)
  have HSg := Lib.hid (show Blk W (w.heap.size + 1 + 1) 24 #[.string ⟨#[38]⟩, .string ⟨#[124]⟩, .string ⟨#[94]⟩, .string ⟨#[45, 62]⟩, .string ⟨#[60, 45, 62]⟩] from hW ▸ Blk.new2 w _ _ _ _)
  have hKW : KidsV ok W [t1, t2] A 0 := KidsV.of_cells (fun p _ _ hc => (HB.out.cell (World.block_lt_of_cell? _ _ hc)).trans hc) [t1, t2] A 0 hK
  obtain ⟨g, o, k1, a1, v1, A1, n1, c1, rfl, gl1, q10, q11, q12, q13, hE1⟩ := KidsV.get _ _ 0 t1 hKW rfl
  obtain ⟨g2, o2, k2, a2, v2, A2, n2, c2, e2, gl2, q20, q21, q22, q23, hE2⟩ := KidsV.get _ _ 1 t2 hKW rfl
  cases e2
  simp only [Nat.zero_mul, Nat.add_zero, Nat.zero_add, Nat.one_mul] at q10 q11 q12 q13 q20 q21 q22 q23
  have HE1 := Lib.hid hE1; have H1 := Lib.hid h1; have HE2 := Lib.hid hE2; have H2 := Lib.hid h2
  clear hKW hE1 hE2
  have gw := World.block_lt_of_cell? _ _ q10
  simp only at gw
  have hcat : ∀ x y : Bs, str x ++ str y = str (x ++ y) := str_cat
  have hsize : ∀ x : Bs, (str x).size = x.length := size_str
  have lt0 : (⟨#[40, 40]⟩ : ByteArray) = str [40, 40] := rfl
  have lt1 : (⟨#[41, 32]⟩ : ByteArray) = str [41, 32] := rfl
  have lt2 : (⟨#[32, 40]⟩ : ByteArray) = str [32, 40] := rfl
  have lt3 : (⟨#[41, 41]⟩ : ByteArray) = str [41, 41] := rfl
  have m0 : ¬ 9223372036854775807 < 2 + (printT t1).length := by omega
  have m1 : ¬ 9223372036854775807 < (printT t1).length + 1 + 1 + 2 := by omega
  have m2 : ¬ 9223372036854775807 < (printT t1).length + 2 + 1 + 1 + 2 := by omega
  have m3 : ¬ 9223372036854775807 < (printT t1).length + 4 + 1 + 1 + 2 := by omega
  have m4 : ¬ 9223372036854775807 < (printT t1).length + 6 + 1 + 1 + (printT t2).length := by omega
  have m5 : ¬ 9223372036854775807 < (printT t1).length + ((printT t2).length + 1 + 1 + 1 + 1 + 1 + 1) + 1 + 1 + 2 := by omega
  obtain ⟨⟨x0, x1, x2, x3⟩, _⟩ := HX.out.four
  have lX := HX.out.lt
  have sc : W.cell? ⟨w.heap.size + 1 + 1, 3, none⟩ = some (.string (str [45, 62])) := HSg.out.cell 3
  have lS := HSg.out.lt
  have wk : IntKind.i64.wrap 3 = 3 := by decide
  have HW := Lib.hid hW
  clear hK h1 h2 hp hl hW
  go_enter Try.func21, Try.ntmps21
  go_wp2_with fail
  rw [← HW.out]
  go_region_held3 (fun w' => W.heap.size ≤ w'.heap.size ∧ ∀ p : Addr, p.block < W.heap.size → w'.cell? p = W.cell? p)
    (first
      | exact ⟨Nat.le_refl _, fun p _ => rfl⟩
      | exact ⟨s11, s12⟩
      | exact ⟨s21, s22⟩
      | assumption)
    (first
      | (go_at_call 21; (with_reducible refine (H2.out.call ok _ _ (by omega) (HE2.out.keep B1)).mono ?_); rintro e w2 ⟨rfl, hb2⟩; have B2 := (show Below W.heap.size W w2 from B1.step hb2); have s21 := B2.size; have s22 := fun (p : Addr) (hp : p.block < W.heap.size) => B2.cell hp)
      | (go_at_call 21; (with_reducible refine (H1.out.call ok _ _ (by omega) HE1.out.drew).mono ?_); rintro e w1 ⟨rfl, hb1⟩; have B1 := (show Below W.heap.size W w1 from hb1.of_drew); have s11 := B1.size; have s12 := fun (p : Addr) (hp : p.block < W.heap.size) => B1.cell hp))
  have HBf := Lib.hid (HB.out.step B2)
  clear B1 hb1 s11 s12 B2 hb2 s21 s22
  go_wp2_with fail
  go_ret
  exact ⟨by simp, HBf.out⟩

set_option maxRecDepth 100000 in
set_option maxHeartbeats 2000000 in
theorem rp_8 (a : Int) (u : Nat) (hu : u < 8) (t1 : Tree) (h1 : PrC t1) (t2 : Tree) (h2 : PrC t2) : PrC (.node 8 a (u : Int) [t1, t2]) := by
  intro ok x w hl hE
  unfold ExprV at hE
  obtain ⟨A, c, rfl, hK⟩ := hE
  have hp : printT (.node 8 a (u : Int) [t1, t2]) = [40, 40] ++ printT t1 ++ [41, 32] ++ [60, 45, 62] ++ [32, 40] ++ printT t2 ++ [41, 41] := by simp [printT, printL, nodeB, nthB, inB, sgL]
  rw [hp] at hl ⊢
  have hl1 : (printT t1).length + (printT t2).length ≤ 1000000 := by simp at hl; omega
  have hk := digit_conv w (.cells #[.int .i64 8, .int .i64 a, .int .i64 (u : Int), .slice A 2 c] 36) u (by omega)
  have hm := tmod10 u (by omega)
  obtain ⟨W, hW⟩ : ∃ W : World, W = ((w.alloc (.cells #[.int .i64 8, .int .i64 a, .int .i64 (u : Int), .slice A 2 c] 36)).alloc (.cells #[.int .u8 (48 + (u : Int))] 5)).alloc (.cells #[.string ⟨#[38]⟩, .string ⟨#[124]⟩, .string ⟨#[94]⟩, .string ⟨#[45, 62]⟩, .string ⟨#[60, 45, 62]⟩] 24) := ⟨_, rfl⟩
  have HB := Lib.hid (show Below w.heap.size w W from hW ▸ below3 w _ _ _)
  have HX := Lib.hid (show Blk W w.heap.size 36 #[.int .i64 8, .int .i64 a, .int .i64 (u : Int), .slice A 2 c] from hW ▸ ((Blk.new w _ _).alloc _).alloc _)
  have HSg := Lib.hid (show Blk W (w.heap.size + 1 + 1) 24 #[.string ⟨#[38]⟩, .string ⟨#[124]⟩, .string ⟨#[94]⟩, .string ⟨#[45, 62]⟩, .string ⟨#[60, 45, 62]⟩] from hW ▸ Blk.new2 w _ _ _ _)
  have hKW : KidsV ok W [t1, t2] A 0 := KidsV.of_cells (fun p _ _ hc => (HB.out.cell (World.block_lt_of_cell? _ _ hc)).trans hc) [t1, t2] A 0 hK
  obtain ⟨g, o, k1, a1, v1, A1, n1, c1, rfl, gl1, q10, q11, q12, q13, hE1⟩ := KidsV.get _ _ 0 t1 hKW rfl
  obtain ⟨g2, o2, k2, a2, v2, A2, n2, c2, e2, gl2, q20, q21, q22, q23, hE2⟩ := KidsV.get _ _ 1 t2 hKW rfl
  cases e2
  simp only [Nat.zero_mul, Nat.add_zero, Nat.zero_add, Nat.one_mul] at q10 q11 q12 q13 q20 q21 q22 q23
  have HE1 := Lib.hid hE1; have H1 := Lib.hid h1; have HE2 := Lib.hid hE2; have H2 := Lib.hid h2
  clear hKW hE1 hE2
  have gw := World.block_lt_of_cell? _ _ q10
  simp only at gw
  have hcat : ∀ x y : Bs, str x ++ str y = str (x ++ y) := str_cat
  have hsize : ∀ x : Bs, (str x).size = x.length := size_str
  have lt0 : (⟨#[40, 40]⟩ : ByteArray) = str [40, 40] := rfl
  have lt1 : (⟨#[41, 32]⟩ : ByteArray) = str [41, 32] := rfl
  have lt2 : (⟨#[32, 40]⟩ : ByteArray) = str [32, 40] := rfl
  have lt3 : (⟨#[41, 41]⟩ : ByteArray) = str [41, 41] := rfl
  have m0 : ¬ 9223372036854775807 < 2 + (printT t1).length := by omega
  have m1 : ¬ 9223372036854775807 < (printT t1).length + 1 + 1 + 2 := by omega
  have m2 : ¬ 9223372036854775807 < (printT t1).length + 2 + 1 + 1 + 3 := by omega
  have m3 : ¬ 9223372036854775807 < (printT t1).length + 5 + 1 + 1 + 2 := by omega
  have m4 : ¬ 9223372036854775807 < (printT t1).length + 7 + 1 + 1 + (printT t2).length := by omega
  have m5 : ¬ 9223372036854775807 < (printT t1).length + ((printT t2).length + 1 + 1 + 1 + 1 + 1 + 1 + 1) + 1 + 1 + 2 := by omega
  obtain ⟨⟨x0, x1, x2, x3⟩, _⟩ := HX.out.four
  have lX := HX.out.lt
  have sc : W.cell? ⟨w.heap.size + 1 + 1, 4, none⟩ = some (.string (str [60, 45, 62])) := HSg.out.cell 4
  have lS := HSg.out.lt
  have wk : IntKind.i64.wrap 4 = 4 := by decide
  have HW := Lib.hid hW
  clear hK h1 h2 hp hl hW
  go_enter Try.func21, Try.ntmps21
  go_wp2_with fail
  rw [← HW.out]
  go_region_held3 (fun w' => W.heap.size ≤ w'.heap.size ∧ ∀ p : Addr, p.block < W.heap.size → w'.cell? p = W.cell? p)
    (first
      | exact ⟨Nat.le_refl _, fun p _ => rfl⟩
      | exact ⟨s11, s12⟩
      | exact ⟨s21, s22⟩
      | assumption)
    (first
      | (go_at_call 21; (with_reducible refine (H2.out.call ok _ _ (by omega) (HE2.out.keep B1)).mono ?_); rintro e w2 ⟨rfl, hb2⟩; have B2 := (show Below W.heap.size W w2 from B1.step hb2); have s21 := B2.size; have s22 := fun (p : Addr) (hp : p.block < W.heap.size) => B2.cell hp)
      | (go_at_call 21; (with_reducible refine (H1.out.call ok _ _ (by omega) HE1.out.drew).mono ?_); rintro e w1 ⟨rfl, hb1⟩; have B1 := (show Below W.heap.size W w1 from hb1.of_drew); have s11 := B1.size; have s12 := fun (p : Addr) (hp : p.block < W.heap.size) => B1.cell hp))
  have HBf := Lib.hid (HB.out.step B2)
  clear B1 hb1 s11 s12 B2 hb2 s21 s22
  go_wp2_with fail
  go_ret
  exact ⟨by simp, HBf.out⟩

theorem rp_node (k a v : Int) (ks : List Tree) (hp : plainB k v ks.length = true) (IH : ∀ t ∈ ks, PrC t) : PrC (.node k a v ks) := by
  unfold plainB at hp
  simp only [decide_eq_true_eq] at hp
  obtain ⟨h1, h11, hl, hv0, hv⟩ := hp
  have hv7 : v ≤ 7 := by
    have : topOf k ≤ 7 := by unfold topOf; (repeat' split) <;> omega
    omega
  obtain ⟨u, rfl⟩ : ∃ u : Nat, v = (u : Int) := ⟨v.toNat, by omega⟩
  have hk : k = 1 ∨ k = 2 ∨ k = 3 ∨ k = 4 ∨ k = 5 ∨ k = 6 ∨ k = 7 ∨ k = 8 ∨ k = 9 ∨ k = 10 ∨ k = 11 := by omega
  rcases hk with rfl | rfl | rfl | rfl | rfl | rfl | rfl | rfl | rfl | rfl | rfl
  · obtain rfl := lenK0 hl
    exact rp_var a u (by omega)
  · obtain rfl := lenK0 hl
    exact rp_const a u (by omega)
  · obtain ⟨t1, rfl⟩ := lenK1 hl
    exact rp_not a u (by omega) t1 (IH t1 (by simp))
  · obtain ⟨t1, t2, rfl⟩ := lenK2 hl
    exact rp_4 a u (by omega) t1 (IH t1 (by simp)) t2 (IH t2 (by simp))
  · obtain ⟨t1, t2, rfl⟩ := lenK2 hl
    exact rp_5 a u (by omega) t1 (IH t1 (by simp)) t2 (IH t2 (by simp))
  · obtain ⟨t1, t2, rfl⟩ := lenK2 hl
    exact rp_6 a u (by omega) t1 (IH t1 (by simp)) t2 (IH t2 (by simp))
  · obtain ⟨t1, t2, rfl⟩ := lenK2 hl
    exact rp_7 a u (by omega) t1 (IH t1 (by simp)) t2 (IH t2 (by simp))
  · obtain ⟨t1, t2, rfl⟩ := lenK2 hl
    exact rp_8 a u (by omega) t1 (IH t1 (by simp)) t2 (IH t2 (by simp))
  · obtain ⟨t1, t2, t3, rfl⟩ := lenK3 hl
    exact rp_ite a u (by omega) t1 (IH t1 (by simp)) t2 (IH t2 (by simp)) t3 (IH t3 (by simp))
  · obtain ⟨t1, rfl⟩ := lenK1 hl
    exact rp_all a u (by omega) t1 (IH t1 (by simp))
  · obtain ⟨t1, rfl⟩ := lenK1 hl
    exact rp_any a u (by omega) t1 (IH t1 (by simp))
mutual
theorem rp_tree : ∀ t : Tree, allP t = true → PrC t
  | .node k a v ks, h => by
    unfold allP at h
    rw [Bool.and_eq_true] at h
    exact rp_node k a v ks h.1 (rp_trees ks h.2)
theorem rp_trees : ∀ l : List Tree, allPL l = true → ∀ t ∈ l, PrC t
  | [], _, t, ht => absurd ht (by simp)
  | u :: us, h, t, ht => by
    unfold allPL at h
    rw [Bool.and_eq_true] at h
    rcases List.mem_cons.1 ht with e | ht
    · rw [e]; exact rp_tree u h.1
    · exact rp_trees us h.2 t ht
end
end Go.Proofs.Ytmjpecjciibngaa
