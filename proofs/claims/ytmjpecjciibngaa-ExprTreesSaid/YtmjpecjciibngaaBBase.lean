/- Tables of functions of eight variables as four words: plain facts on bits, without a program. Memory: a block known whole, worlds below a block: plain facts, without a program. Formulas read: signs, and the reading of signs: plain functions on lists of bytes, without a program. -/
import Derived.Test.YtmjpecjciibngaaRows
import Derived.WalkKit
import Derived.ProofKit
import Derived.Deep.QuietTactic
import Derived.BigQuiet
import Derived.Lib.Hide
namespace Go.Proofs.Ytmjpecjciibngaa
open Go.RowKit
set_option linter.unusedVariables false

/-- The first n bits of word i of a table. -/
def wdTo (f : Nat → Bool) (i : Nat) : Nat → Nat
  | 0 => 0
  | n + 1 => wdTo f i n + (if f (64 * i + n) then 2 ^ n else 0)
def wd (f : Nat → Bool) (i : Nat) : Nat := wdTo f i 64

theorem wdTo_lt (f : Nat → Bool) (i : Nat) : ∀ n, wdTo f i n < 2 ^ n
  | 0 => by simp [wdTo]
  | n + 1 => by
    have h := wdTo_lt f i n
    simp only [wdTo]
    rw [Nat.pow_succ]
    split <;> omega

theorem testBit_wdTo (f : Nat → Bool) (i : Nat) : ∀ n j, (wdTo f i n).testBit j = (decide (j < n) && f (64 * i + j))
  | 0, j => by simp [wdTo]
  | n + 1, j => by
    have h := wdTo_lt f i n
    have ih := testBit_wdTo f i n j
    simp only [wdTo]
    by_cases hf : f (64 * i + n) = true
    · rw [if_pos hf, Nat.add_comm]
      by_cases hj : j = n
      · subst hj
        rw [Nat.testBit_two_pow_add_eq, ih]; simp [hf]
      · by_cases hjn : j < n
        · rw [Nat.testBit_two_pow_add_gt hjn, ih]
          simp [hjn, Nat.lt_succ_of_lt hjn]
        · rw [Nat.testBit_lt_two_pow (Nat.lt_of_lt_of_le (show 2 ^ n + wdTo f i n < 2 ^ (n + 1) by rw [Nat.pow_succ]; omega) (Nat.pow_le_pow_right (by omega) (by omega)))]
          simp; omega
    · rw [if_neg hf, Nat.add_zero, ih]
      by_cases hj : j = n
      · subst hj; simp [hf]
      · by_cases hjn : j < n
        · simp [hjn, Nat.lt_succ_of_lt hjn]
        · simp [hjn]; omega

theorem wd_lt (f : Nat → Bool) (i : Nat) : wd f i < 18446744073709551616 := by
  have := wdTo_lt f i 64
  simpa [wd] using this

theorem testBit_wd (f : Nat → Bool) (i j : Nat) : (wd f i).testBit j = (decide (j < 64) && f (64 * i + j)) := testBit_wdTo f i 64 j

theorem wd_congr {f g : Nat → Bool} (h : ∀ x, x < 256 → f x = g x) {i : Nat} (hi : i < 4) : wd f i = wd g i := by
  apply Nat.eq_of_testBit_eq
  intro j
  rw [testBit_wd, testBit_wd]
  by_cases hj : j < 64
  · rw [h _ (by omega)]
  · simp [hj]

theorem wd_inj {f g : Nat → Bool} {i : Nat} (h : wd f i = wd g i) {j : Nat} (hj : j < 64) : f (64 * i + j) = g (64 * i + j) := by
  have := congrArg (fun n : Nat => n.testBit j) h
  simpa [testBit_wd, hj] using this

/-- Any word is the word of its bits. -/
theorem wd_of_words (n : Nat → Nat) (hn : ∀ i, n i < 18446744073709551616) (i : Nat) (hi : i < 4) : wd (fun x => (n (x / 64)).testBit (x % 64)) i = n i := by
  apply Nat.eq_of_testBit_eq
  intro j
  rw [testBit_wd]
  by_cases hj : j < 64
  · rw [show (64 * i + j) / 64 = i by omega, show (64 * i + j) % 64 = j by omega]; simp [hj]
  · rw [Nat.testBit_lt_two_pow (Nat.lt_of_lt_of_le (show n i < 2 ^ 64 from hn i) (Nat.pow_le_pow_right (by omega) (by omega)))]
    simp [hj]

abbrev tabCells (f : Nat → Bool) : Array Value := #[.int .u64 (wd f 0 : Nat), .int .u64 (wd f 1 : Nat), .int .u64 (wd f 2 : Nat), .int .u64 (wd f 3 : Nat)]
abbrev tabV (f : Nat → Bool) : Value := .agg (tabCells f)

theorem tabCells_get (f : Nat → Bool) {i : Nat} (hi : i < 4) : (tabCells f)[i]? = some (.int .u64 (wd f i : Nat)) := by
  match i, hi with
  | 0, _ => rfl
  | 1, _ => rfl
  | 2, _ => rfl
  | 3, _ => rfl

theorem tabCells_congr {f g : Nat → Bool} (h : ∀ x, x < 256 → f x = g x) : tabCells f = tabCells g := by
  simp only [tabCells, wd_congr h (show 0 < 4 by omega), wd_congr h (show 1 < 4 by omega), wd_congr h (show 2 < 4 by omega), wd_congr h (show 3 < 4 by omega)]

theorem tabV_congr {f g : Nat → Bool} (h : ∀ x, x < 256 → f x = g x) : tabV f = tabV g := by
  simp only [tabV, tabCells_congr h]

theorem wds_inj {f g : Nat → Bool} (h : ∀ i, i < 4 → wd f i = wd g i) : ∀ x, x < 256 → f x = g x := by
  intro x hx
  have := wd_inj (h (x / 64) (by omega)) (show x % 64 < 64 by omega)
  rwa [show 64 * (x / 64) + x % 64 = x by omega] at this

theorem wd_false (i : Nat) : wd (fun _ => false) i = 0 := by
  apply Nat.eq_of_testBit_eq; intro j; simp [testBit_wd]

/-- One bit more. -/
theorem wd_or_bit (f g : Nat → Bool) (x : Nat) (hg : g x = true) (hf : ∀ y, y ≠ x → f y = g y) : wd g (x / 64) = wd f (x / 64) ||| 2 ^ (x % 64) := by
  apply Nat.eq_of_testBit_eq
  intro j
  rw [Nat.testBit_or, testBit_wd, testBit_wd, Nat.testBit_two_pow]
  by_cases hj : j < 64
  · by_cases he : 64 * (x / 64) + j = x
    · rw [he, hg, show x % 64 = j by omega]; simp [hj]
    · rw [hf _ he]
      have : ¬ x % 64 = j := by omega
      simp [this]
  · have : ¬ x % 64 = j := by omega
    simp [hj, this]

theorem wd_same (f g : Nat → Bool) (i : Nat) (h : ∀ j, j < 64 → f (64 * i + j) = g (64 * i + j)) : wd f i = wd g i := by
  apply Nat.eq_of_testBit_eq
  intro j
  rw [testBit_wd, testBit_wd]
  by_cases hj : j < 64
  · rw [h j hj]
  · simp [hj]

theorem tabCells_set (f g : Nat → Bool) (x : Nat) (hx : x < 256) (hg : g x = true) (hf : ∀ y, y ≠ x → f y = g y) :
    (tabCells f).setIfInBounds (x / 64) (.int .u64 ((wd f (x / 64) ||| 2 ^ (x % 64) : Nat) : Int)) = tabCells g := by
  rw [← wd_or_bit f g x hg hf]
  have hs : ∀ i, i ≠ x / 64 → wd f i = wd g i := fun i hi => wd_same f g i fun j hj => hf _ (by omega)
  have h4 : x / 64 = 0 ∨ x / 64 = 1 ∨ x / 64 = 2 ∨ x / 64 = 3 := by omega
  unfold tabCells
  rcases h4 with h | h | h | h <;> rw [h] at hs ⊢
  · rw [hs 1 (by omega), hs 2 (by omega), hs 3 (by omega)]; rfl
  · rw [hs 0 (by omega), hs 2 (by omega), hs 3 (by omega)]; rfl
  · rw [hs 0 (by omega), hs 1 (by omega), hs 3 (by omega)]; rfl
  · rw [hs 0 (by omega), hs 1 (by omega), hs 2 (by omega)]; rfl

/- Words under the operations of the language. -/
theorem bv64 (a : Nat) (ha : a < 18446744073709551616) : (BitVec.ofInt 64 (a : Int)).toNat = a := by
  rw [BitVec.ofInt_natCast, BitVec.toNat_ofNat]; exact Nat.mod_eq_of_lt (by omega)
theorem bits_or_u64 (a b : Nat) (ha : a < 18446744073709551616) (hb : b < 18446744073709551616) : bits .or .u64 (a : Int) (b : Int) = ((a ||| b : Nat) : Int) := by
  have hx : a ||| b < 2 ^ 64 := Nat.or_lt_two_pow (by omega) (by omega)
  show IntKind.u64.wrap ((BitVec.ofInt 64 (a : Int) ||| BitVec.ofInt 64 (b : Int)).toNat : Int) = _
  rw [BitVec.toNat_or, bv64 a ha, bv64 b hb, IntKind.wrap_u64]; omega
theorem bits_and_u64 (a b : Nat) (ha : a < 18446744073709551616) (hb : b < 18446744073709551616) : bits .and .u64 (a : Int) (b : Int) = ((a &&& b : Nat) : Int) := by
  have hx : a &&& b < 2 ^ 64 := Nat.and_lt_two_pow _ (by omega)
  show IntKind.u64.wrap ((BitVec.ofInt 64 (a : Int) &&& BitVec.ofInt 64 (b : Int)).toNat : Int) = _
  rw [BitVec.toNat_and, bv64 a ha, bv64 b hb, IntKind.wrap_u64]; omega
theorem bits_xor_u64 (a b : Nat) (ha : a < 18446744073709551616) (hb : b < 18446744073709551616) : bits .xor .u64 (a : Int) (b : Int) = ((a ^^^ b : Nat) : Int) := bits_xor_u64_nat a b ha hb
theorem wd_or (f g : Nat → Bool) (i : Nat) : wd f i ||| wd g i = wd (fun x => f x || g x) i := by
  apply Nat.eq_of_testBit_eq; intro j; rw [Nat.testBit_or, testBit_wd, testBit_wd, testBit_wd]; cases decide (j < 64) <;> simp
theorem wd_and (f g : Nat → Bool) (i : Nat) : wd f i &&& wd g i = wd (fun x => f x && g x) i := by
  apply Nat.eq_of_testBit_eq; intro j; rw [Nat.testBit_and, testBit_wd, testBit_wd, testBit_wd]; cases decide (j < 64) <;> simp
theorem wd_xor (f g : Nat → Bool) (i : Nat) : wd f i ^^^ wd g i = wd (fun x => f x ^^ g x) i := by
  apply Nat.eq_of_testBit_eq; intro j; rw [Nat.testBit_xor, testBit_wd, testBit_wd, testBit_wd]; cases decide (j < 64) <;> simp
theorem wd_not (f : Nat → Bool) (i : Nat) : 18446744073709551615 ^^^ wd f i = wd (fun x => !f x) i := by
  apply Nat.eq_of_testBit_eq; intro j; rw [Nat.testBit_xor, testBit_wd, testBit_wd]
  have : Nat.testBit 18446744073709551615 j = decide (j < 64) := by
    have := Nat.testBit_two_pow_sub_one 64 j
    simpa using this
  rw [this]; cases decide (j < 64) <;> simp
end Go.Proofs.Ytmjpecjciibngaa
namespace Go.Proofs.Ytmjpecjciibngaa
open Go.RowKit
set_option linter.unusedVariables false

/-- Block g holds just the cells cs, of element type t, all writable. -/
def Blk (w : World) (g : Nat) (t : TypeId) (cs : Array Value) : Prop := w.heap[g]? = some (.cells cs t (0, 0))
section
variable {w w' : World} {g : Nat} {t : TypeId} {cs : Array Value}
theorem Blk.lt (h : Blk w g t cs) : g < w.heap.size := by
  rcases Nat.lt_or_ge g w.heap.size with hl | hl
  · exact hl
  · rw [Blk, Array.getElem?_eq_none hl] at h; cases h
theorem Blk.cell (h : Blk w g t cs) (i : Nat) : w.cell? ⟨g, i, none⟩ = cs[i]? := cell_of_row w g i cs t (0, 0) h
theorem Blk.free (h : Blk w g t cs) (i : Nat) : w.frozen? ⟨g, i, none⟩ = false := by
  rw [Blk] at h; simp [World.frozen?, h]
theorem Blk.new (w : World) (t : TypeId) (cs : Array Value) : Blk (w.alloc (.cells cs t)) w.heap.size t cs := heap_alloc_new w _
theorem Blk.new1 (w : World) (A : Obj) (t : TypeId) (cs : Array Value) : Blk ((w.alloc A).alloc (.cells cs t)) (w.heap.size + 1) t cs := by
  have := Blk.new (w.alloc A) t cs; simpa using this
theorem Blk.new2 (w : World) (A B : Obj) (t : TypeId) (cs : Array Value) : Blk (((w.alloc A).alloc B).alloc (.cells cs t)) (w.heap.size + 1 + 1) t cs := by
  have := Blk.new1 (w.alloc A) B t cs; simpa using this
theorem Blk.new3 (w : World) (A B C : Obj) (t : TypeId) (cs : Array Value) : Blk ((((w.alloc A).alloc B).alloc C).alloc (.cells cs t)) (w.heap.size + 1 + 1 + 1) t cs := by
  have := Blk.new2 (w.alloc A) B C t cs; simpa using this
theorem Blk.drew (h : Blk w g t cs) : Blk w.drew g t cs := h
theorem Blk.drewN (h : Blk w g t cs) (n : Nat) : Blk (w.drewN n) g t cs := h
theorem Blk.alloc (h : Blk w g t cs) (o : Obj) : Blk (w.alloc o) g t cs := (Below.heap_alloc w o g h.lt).trans h
theorem Blk.set (h : Blk w g t cs) (i : Nat) (u : Value) : Blk (w.setCell ⟨g, i, none⟩ u) g t (cs.setIfInBounds i u) := by
  rw [Blk] at h ⊢
  simp [World.setCell, Array.getElem?_modify, h]
theorem Blk.far (h : Blk w g t cs) {p : Addr} (hp : g ≠ p.block) (u : Value) : Blk (w.setCell p u) g t cs := (Below.heap_setCell w p u g hp).trans h
theorem Blk.below {B : Nat} (h : Blk w g t cs) (hb : Below B w w') (hg : g < B) : Blk w' g t cs := (hb.block g hg).trans h
theorem Blk.keep (h : Blk w g t cs) (hb : Below w.heap.size w w') : Blk w' g t cs := h.below hb h.lt
end
theorem _root_.Go.RowKit.Below.drewN {B : Nat} {a w : World} (h : Below B a w) (n : Nat) : Below B a (w.drewN n) := ⟨h.os, h.tape, h.output, h.size, h.block⟩
theorem _root_.Go.RowKit.Below.of_drew {a w : World} (h : Below a.drew.heap.size a.drew w) : Below a.heap.size a w := ⟨h.os, h.tape, h.output, h.size, h.block⟩
theorem _root_.Go.RowKit.Below.of_drewN {a w : World} {n : Nat} (h : Below (a.drewN n).heap.size (a.drewN n) w) : Below a.heap.size a w := ⟨h.os, h.tape, h.output, h.size, h.block⟩
/-- Two steps: the second keeps all that lay at its own beginning. -/
theorem _root_.Go.RowKit.Below.step {a b c : World} (h : Below a.heap.size a b) (k : Below b.heap.size b c) : Below a.heap.size a c := h.trans (k.mono h.size)
theorem _root_.Go.RowKit.Below.le {B : Nat} {a b : World} (h : Below B a b) : a.heap.size ≤ b.heap.size := h.size
theorem Blk.put4 {w : World} {g : Nat} {t : TypeId} {a b c d : Value} (h : Blk w g t #[a, b, c, d]) (x y z u : Value) :
    Blk ((((w.setCell ⟨g, 0, none⟩ x).setCell ⟨g, 1, none⟩ y).setCell ⟨g, 2, none⟩ z).setCell ⟨g, 3, none⟩ u) g t #[x, y, z, u] :=
  (((h.set 0 x).set 1 y).set 2 z).set 3 u
theorem _root_.Go.RowKit.Below.put4 {B : Nat} {a w : World} {g : Nat} (h : Below B a w) (hg : B ≤ g) (x y z u : Value) :
    Below B a ((((w.setCell ⟨g, 0, none⟩ x).setCell ⟨g, 1, none⟩ y).setCell ⟨g, 2, none⟩ z).setCell ⟨g, 3, none⟩ u) :=
  ((((h.setCell (p := ⟨g, 0, none⟩) hg x).setCell (p := ⟨g, 1, none⟩) hg y).setCell (p := ⟨g, 2, none⟩) hg z).setCell (p := ⟨g, 3, none⟩) hg u)
theorem Blk.four {w : World} {g : Nat} {t : TypeId} {a b c d : Value} (h : Blk w g t #[a, b, c, d]) :
    (w.cell? ⟨g, 0, none⟩ = some a ∧ w.cell? ⟨g, 1, none⟩ = some b ∧ w.cell? ⟨g, 2, none⟩ = some c ∧ w.cell? ⟨g, 3, none⟩ = some d) ∧
    (w.frozen? ⟨g, 0, none⟩ = false ∧ w.frozen? ⟨g, 1, none⟩ = false ∧ w.frozen? ⟨g, 2, none⟩ = false ∧ w.frozen? ⟨g, 3, none⟩ = false) :=
  ⟨⟨h.cell 0, h.cell 1, h.cell 2, h.cell 3⟩, h.free 0, h.free 1, h.free 2, h.free 3⟩
theorem below1 (w : World) (A : Obj) : Below w.heap.size w (w.alloc A) := (Below.refl _ _).alloc (Nat.le_refl _) _
theorem below2 (w : World) (A B : Obj) : Below w.heap.size w ((w.alloc A).alloc B) := (below1 w A).alloc (by simp) _
theorem below3 (w : World) (A B C : Obj) : Below w.heap.size w (((w.alloc A).alloc B).alloc C) := (below2 w A B).alloc (by simp; omega) _
theorem below4 (w : World) (A B C D : Obj) : Below w.heap.size w ((((w.alloc A).alloc B).alloc C).alloc D) := (below3 w A B C).alloc (by simp; omega) _
abbrev zeroTab : Array Value := #[.int .u64 0, .int .u64 0, .int .u64 0, .int .u64 0]
theorem cell_put4 {w : World} {g : Nat} {p : Addr} (hp : p.block ≠ g) (x y z u : Value) :
    ((((w.setCell ⟨g, 0, none⟩ x).setCell ⟨g, 1, none⟩ y).setCell ⟨g, 2, none⟩ z).setCell ⟨g, 3, none⟩ u).cell? p = w.cell? p := by
  rw [World.cell?_setCell_other _ _ _ _ (fun e => hp (by rw [← e])), World.cell?_setCell_other _ _ _ _ (fun e => hp (by rw [← e])), World.cell?_setCell_other _ _ _ _ (fun e => hp (by rw [← e])), World.cell?_setCell_other _ _ _ _ (fun e => hp (by rw [← e]))]
/-- A table that lies in a block is what the function returns. -/
theorem ret_tab {fn : Func} {R : Ending → World → Prop} {a : Act} {w : World} {p : Tmp} (hr : fn.results = #[.cell p 29]) (g : Nat) (f : Nat → Bool)
    (hp : a.tmps.getD p undef = .pointer (some ⟨g, 0, none⟩)) (hd : a.defers = []) (hg : Blk w g 29 (tabCells f)) (hR : R (.returned (tabV f)) w) : bodyPost Try.prog fn R .ret a w :=
  bodyPost_ret (results_cell_row hr _ _ g 29 (tabCells f) (0, 0) (.array 4 27) hp hg Try.underlying29 rfl (by kernel_rfl)) hd hR
theorem grown_trans {a b c : World} {row : Option Nat} (h : a.grownBy b row) (k : b.grownBy c row) : a.grownBy c row :=
  ⟨k.os.trans h.os, k.tape.trans h.tape, k.output.trans h.output, Nat.le_trans h.size k.size, fun i hi hne => (k.block i (Nat.lt_of_lt_of_le hi h.size) hne).trans (h.block i hi hne)⟩
theorem grown_below {a b : World} (h : Below a.heap.size a b) (row : Option Nat) : a.grownBy b row := ⟨h.os, h.tape, h.output, h.size, fun i hi _ => h.block i hi⟩
theorem grown_drew {a w : World} {row : Option Nat} (h : a.grownBy w row) : a.grownBy w.drew row := ⟨h.os, h.tape, h.output, h.size, h.block⟩
theorem grown_of_drew {a w : World} {row : Option Nat} (h : a.drew.grownBy w row) : a.grownBy w row := ⟨h.os, h.tape, h.output, h.size, h.block⟩
theorem grown_alloc {a w : World} {row : Option Nat} (h : a.grownBy w row) (o : Obj) : a.grownBy (w.alloc o) row := grown_trans h (grown_below (below1 w o) row)
theorem grown_set {a w : World} {g : Nat} (h : a.grownBy w (some g)) {p : Addr} (hp : p.block = g) (u : Value) : a.grownBy (w.setCell p u) (some g) :=
  grown_trans h ⟨rfl, rfl, rfl, by simp [World.setCell], fun i hi hne => Below.heap_setCell _ _ _ _ (fun e => hne (by rw [e, hp]))⟩
theorem grown_at {a w : World} {g : Nat} (h : a.grownBy w (some g)) (i : Nat) (u : Value) : a.grownBy (w.setCell ⟨g, i, none⟩ u) (some g) := grown_set h rfl u
theorem Blk.grown {w w' : World} {g : Nat} {t : TypeId} {cs : Array Value} {row : Option Nat} (h : Blk w g t cs) (hb : w.grownBy w' row) (hg : some g ≠ row) : Blk w' g t cs := (hb.block g h.lt hg).trans h
theorem ret_int {k : IntKind} {a b : Int} (h : a = b) : Ending.returned (.int k a) = .returned (.int k b) := by rw [h]
theorem ret_bool {a b : Bool} (h : a = b) : Ending.returned (.bool a) = .returned (.bool b) := by rw [h]
end Go.Proofs.Ytmjpecjciibngaa
namespace Go.Proofs.Ytmjpecjciibngaa
open Go.RowKit
set_option linter.unusedVariables false

abbrev Bs := List UInt8
def str (l : Bs) : ByteArray := ⟨l.toArray⟩

def isLet (c : UInt8) : Bool := (decide (97 ≤ c.toNat) && decide (c.toNat ≤ 122)) || (decide (65 ≤ c.toNat) && decide (c.toNat ≤ 90))
def isNum (c : UInt8) : Bool := decide (48 ≤ c.toNat) && decide (c.toNat ≤ 57)
def isBlank (c : UInt8) : Bool := c == 32 || (c == 9 || c == 10)
def isVar : Bs → Bool
  | [a, b] => a == 118 && (decide (48 ≤ b.toNat) && decide (b.toNat ≤ 55))
  | _ => false
def signs : List Bs := [[60, 45, 62], [45, 62], [33], [38], [124], [94], [40], [41], [44]]
def word (l : Bs) : Bs := l.takeWhile fun c => isLet c || isNum c
/-- The sign that a text begins with. -/
def scanL (l : Bs) : Bs :=
  match signs.find? (fun k => k.isPrefixOf l) with
  | some k => k
  | none =>
    match l with
    | [] => []
    | c :: r =>
      if c == 48 || c == 49 then [c]
      else if !isLet c then [63]
      else
        let w := c :: word r
        if w == [97, 108, 108] || (w == [97, 110, 121] || (w == [105, 116, 101] || isVar w)) then w else [63]

abbrev Tok := Bs × Nat
/-- All signs of a text from a place on; behind the last one its end; behind what is no sign nothing. -/
def lexL : Nat → Bs → Nat → List Tok
  | 0, _, at_ => [([], at_)]
  | n + 1, l, at_ =>
    let b := (l.takeWhile isBlank).length
    let l' := l.drop b
    let t := scanL l'
    if t == [] || t == [63] then [(t, at_ + b)] else (t, at_ + b) :: lexL n (l'.drop t.length) (at_ + b + t.length)
def lexFrom (s : Bs) (at_ : Nat) : List Tok := lexL (s.length + 1) (s.drop at_) at_

inductive Tree where
  | node (kind at_ var : Int) (kids : List Tree)
def Tree.zero : Tree := .node 0 0 0 []

/-- The reader: the signs that are left (never none), how deep, the first error and its place. -/
structure PS where
  toks : List Tok
  depth : Nat
  e : Nat
  eat : Nat
def PS.hd (p : PS) : Tok := p.toks.headD ([], 0)
def PS.at_ (p : PS) : Nat := p.hd.2
def PS.goes (p : PS) : PS := { p with toks := p.toks.tail }
def PS.bad (p : PS) (e : Nat) : PS := if p.e = 0 then { p with e := e, eat := p.at_ } else p
def PS.may (p : PS) (t : Bs) : Bool × PS := if p.e = 0 ∧ p.hd.1 = t then (true, p.goes) else (false, p)
def PS.must (p : PS) (t : Bs) : PS := let r := p.may t; if r.1 then r.2 else r.2.bad 230
abbrev Rd := PS → Tree × PS
def within (read : Rd) (p : PS) : Tree × PS :=
  let p1 := { p with depth := p.depth + 1 }
  let p2 := if 30 < p1.depth then p1.bad 231 else p1
  if p2.e ≠ 0 then (.zero, { p2 with depth := p2.depth - 1 })
  else let r := read p2; (r.1, { r.2 with depth := r.2.depth - 1 })
def chainGo (t : Bs) (kind : Int) (read : Rd) : Nat → Tree → PS → Tree × PS
  | 0, e, p => (e, p)
  | n + 1, e, p =>
    let m := p.may t
    if m.1 then let r := read m.2; chainGo t kind read n (.node kind p.at_ 0 [e, r.1]) r.2 else (e, m.2)
def chain (t : Bs) (kind : Int) (read : Rd) (p : PS) : Tree × PS :=
  let r := read p
  chainGo t kind read (r.2.toks.length) r.1 r.2
def digitOf (t : Bs) (i : Nat) : Nat := (t.getD i 0).toNat - 48
def boundP (un : Rd) (kind at_ : Int) (p : PS) : Tree × PS :=
  let v := p.hd.1
  if isVar v then
    let r := within un p.goes
    (.node kind at_ (digitOf v 1) [r.1], r.2)
  else (.zero, p.bad 230)
def iteStep (iff_ : Rd) (t : Bs) (l : List Tree) (p : PS) : List Tree × PS :=
  let r := within iff_ (p.must t)
  (l ++ [r.1], r.2)
def iteP (iff_ : Rd) (at_ : Int) (p : PS) : Tree × PS :=
  let r1 := iteStep iff_ [40] [] p
  let r2 := iteStep iff_ [44] r1.1 r1.2
  let r3 := iteStep iff_ [44] r2.1 r2.2
  (.node 9 at_ 0 r3.1, r3.2.must [41])
def primP (iff_ : Rd) (p : PS) : Tree × PS :=
  let t := p.hd
  if isVar t.1 then (.node 1 t.2 (digitOf t.1 1) [], p.goes)
  else if t.1 = [48] ∨ t.1 = [49] then (.node 2 t.2 (digitOf t.1 0) [], p.goes)
  else
    let m := p.may [40]
    if m.1 then let r := within iff_ m.2; (r.1, r.2.must [41])
    else
      let m2 := m.2.may [105, 116, 101]
      if m2.1 then iteP iff_ t.2 m2.2
      else (.zero, m2.2.bad 230)
def unP (un iff_ : Rd) (p : PS) : Tree × PS :=
  if p.e ≠ 0 then (.zero, p)
  else
    let m := p.may [33]
    if m.1 then let r := within un m.2; (.node 3 p.at_ 0 [r.1], r.2)
    else
      let m2 := m.2.may [97, 108, 108]
      if m2.1 then boundP un 10 p.at_ m2.2
      else
        let m3 := m2.2.may [97, 110, 121]
        if m3.1 then boundP un 11 p.at_ m3.2 else primP iff_ m3.2
def orP (un : Rd) : Rd := chain [124] 5 (chain [94] 6 (chain [38] 4 un))
def impP (un imp : Rd) (p : PS) : Tree × PS :=
  let r := orP un p
  let m := r.2.may [45, 62]
  if m.1 then let r2 := within imp m.2; (.node 7 r.2.at_ 0 [r.1, r2.1], r2.2) else (r.1, m.2)
/-- The three readers that call themselves one deeper; at level 0 nothing is read deeper. -/
structure Lev where
  un : Rd
  imp : Rd
  iff_ : Rd
def Lev.next (L : Lev) : Lev :=
  let un := unP L.un L.iff_
  let imp := impP un L.imp
  { un, imp, iff_ := chain [60, 45, 62] 8 imp }
def Lev.none_ : Lev := ⟨fun p => (.zero, p), fun p => (.zero, p), fun p => (.zero, p)⟩
def lev : Nat → Lev
  | 0 => Lev.none_
  | n + 1 => (lev n).next
/-- A formula, its error's place, its error. -/
def parseL (s : Bs) : Tree × Nat × Nat :=
  if 4000 < s.length then (.zero, 0, 232)
  else
    let r := (lev 31).iff_ { toks := lexFrom s 0, depth := 0, e := 0, eat := 0 }
    let p := if r.2.e = 0 ∧ r.2.hd.1 ≠ [] then r.2.bad 230 else r.2
    if p.e ≠ 0 then (.zero, p.eat, p.e) else (r.1, 0, 0)

end Go.Proofs.Ytmjpecjciibngaa
