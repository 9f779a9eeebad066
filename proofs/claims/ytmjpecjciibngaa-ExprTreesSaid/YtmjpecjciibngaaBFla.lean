/- Rows of operators: runs joined level by level; plain facts. Formulas that are a row of operators between variables: the lexer and the readers on them. Plain facts. The readers on rows of operators between variables. Plain facts. The readers on rows come to the runs joined level by level. Plain facts. A row of operators between variables is read as the runs joined level by level. Plain facts. -/
import Derived.Test.YtmjpecjciibngaaBBase
import Derived.Test.YtmjpecjciibngaaLeaf
namespace Go.Proofs.Ytmjpecjciibngaa
open Go.RowKit
set_option linter.unusedVariables false

section
variable {α : Type} (jn : Nat → α → α → α)
/-- All runs of the sign k joined from the left. -/
def mergeL (k : Nat) : α → List (Nat × α) → α × List (Nat × α)
  | x, [] => (x, [])
  | x, (j, y) :: r => if j = k then mergeL k (jn k x y) r else (x, (j, (mergeL k y r).1) :: (mergeL k y r).2)
/-- All runs of the sign k joined from the right. -/
def mergeR (k : Nat) : α → List (Nat × α) → α × List (Nat × α)
  | x, [] => (x, [])
  | x, (j, y) :: r => if j = k then (jn k x (mergeR k y r).1, (mergeR k y r).2) else (x, (j, (mergeR k y r).1) :: (mergeR k y r).2)
/-- The sign at place i is worked out. -/
def stepAt : Nat → α → List (Nat × α) → α × List (Nat × α)
  | _, x, [] => (x, [])
  | 0, x, (j, y) :: r => (jn j x y, r)
  | i + 1, x, (j, y) :: r => (x, (j, (stepAt i y r).1) :: (stepAt i y r).2)
theorem mergeL_none (k : Nat) : ∀ (r : List (Nat × α)) (x : α), (∀ p ∈ r, p.1 ≠ k) → mergeL jn k x r = (x, r)
  | [], x, _ => rfl
  | (j, y) :: r, x, h => by
    have hj : j ≠ k := h (j, y) (by simp)
    rw [mergeL, if_neg hj, mergeL_none k r y fun p hp => h p (by simp [hp])]
theorem mergeR_none (k : Nat) : ∀ (r : List (Nat × α)) (x : α), (∀ p ∈ r, p.1 ≠ k) → mergeR jn k x r = (x, r)
  | [], x, _ => rfl
  | (j, y) :: r, x, h => by
    have hj : j ≠ k := h (j, y) (by simp)
    rw [mergeR, if_neg hj, mergeR_none k r y fun p hp => h p (by simp [hp])]
/-- The first sign k, worked out: the runs come to the same. -/
theorem mergeL_step (k : Nat) : ∀ (i : Nat) (r : List (Nat × α)) (x : α), (r[i]?).map (·.1) = some k → (∀ j, j < i → (r[j]?).map (·.1) ≠ some k) → mergeL jn k (stepAt jn i x r).1 (stepAt jn i x r).2 = mergeL jn k x r
  | i, [], x, h, _ => by simp at h
  | 0, (j, y) :: r, x, h, _ => by
    have hj : j = k := by simpa using h
    subst hj
    rw [mergeL, if_pos rfl]; rfl
  | i + 1, (j, y) :: r, x, h, hb => by
    have hj : j ≠ k := by
      have := hb 0 (by omega)
      simpa using this
    have ih := mergeL_step k i r y (by simpa using h) fun j' hj' => by
      have := hb (j' + 1) (by omega)
      simpa using this
    simp only [stepAt]
    rw [mergeL, if_neg hj, mergeL, if_neg hj, ih]
/-- The last sign k, worked out: the runs from the right come to the same. -/
theorem mergeR_step (k : Nat) : ∀ (i : Nat) (r : List (Nat × α)) (x : α), (r[i]?).map (·.1) = some k → (∀ j, i < j → (r[j]?).map (·.1) ≠ some k) → mergeR jn k (stepAt jn i x r).1 (stepAt jn i x r).2 = mergeR jn k x r
  | i, [], x, h, _ => by simp at h
  | 0, (j, y) :: r, x, h, hb => by
    have hj : j = k := by simpa using h
    subst hj
    have hno : ∀ p ∈ r, p.1 ≠ j := by
      intro p hp
      obtain ⟨n, hn, e⟩ := List.getElem_of_mem hp
      have := hb (n + 1) (by omega)
      simp only [List.getElem?_cons_succ, List.getElem?_eq_getElem hn, Option.map_some, e] at this
      simpa using this
    simp only [stepAt]
    rw [mergeR, if_pos rfl, mergeR_none jn j r _ hno, mergeR_none jn j r _ hno]
  | i + 1, (j, y) :: r, x, h, hb => by
    have ih := mergeR_step k i r y (by simpa using h) fun j' hj' => by
      have := hb (j' + 1) (by omega)
      simpa using this
    simp only [stepAt]
    rw [mergeR, mergeR, ih]
end
end Go.Proofs.Ytmjpecjciibngaa
namespace Go.Proofs.Ytmjpecjciibngaa
open Go.RowKit
set_option linter.unusedVariables false

def sgn : Nat → Bs | 0 => [38] | 1 => [94] | 2 => [124] | 3 => [45, 62] | _ => [60, 45, 62]
def kd : Nat → Int | 0 => 4 | 1 => 6 | 2 => 5 | 3 => 7 | _ => 8
abbrev vtok (d : Nat) : Bs := [118, dg d]
/-- The text behind the first variable. -/
def tailB : List (Nat × Nat) → Bs
  | [] => []
  | (o, d) :: r => 32 :: (sgn o ++ (32 :: (vtok d ++ tailB r)))
def toksOf : List (Nat × Nat) → Nat → List Tok
  | [], at_ => [([], at_)]
  | (o, d) :: r, at_ => (sgn o, at_ + 1) :: (vtok d, at_ + 1 + (sgn o).length + 1) :: toksOf r (at_ + 1 + (sgn o).length + 1 + 2)
theorem tail_head : ∀ r : List (Nat × Nat), tailB r = [] ∨ ∃ t, tailB r = 32 :: t
  | [] => .inl rfl
  | (o, d) :: r => .inr ⟨_, rfl⟩
theorem lex_var (d : Nat) (hd : d < 8) (t : Bs) (ht : t = [] ∨ ∃ u, t = 32 :: u) (n at_ : Nat) : lexL (n + 1) (vtok d ++ t) at_ = (vtok d, at_) :: lexL n t (at_ + 2) := by
  have h8 : d = 0 ∨ d = 1 ∨ d = 2 ∨ d = 3 ∨ d = 4 ∨ d = 5 ∨ d = 6 ∨ d = 7 := by omega
  rcases h8 with rfl | rfl | rfl | rfl | rfl | rfl | rfl | rfl <;> rcases ht with rfl | ⟨u, rfl⟩ <;> rfl
theorem lex_sgn (o : Nat) (ho : o < 5) (d : Nat) (hd : d < 8) (t : Bs) (ht : t = [] ∨ ∃ u, t = 32 :: u) (n at_ : Nat) :
    lexL (n + 2) (32 :: (sgn o ++ (32 :: (vtok d ++ t)))) at_ = (sgn o, at_ + 1) :: (vtok d, at_ + 1 + (sgn o).length + 1) :: lexL n t (at_ + 1 + (sgn o).length + 1 + 2) := by
  have h1 : lexL (n + 2) (32 :: (sgn o ++ (32 :: (vtok d ++ t)))) at_ = (sgn o, at_ + 1) :: lexL (n + 1) (32 :: (vtok d ++ t)) (at_ + 1 + (sgn o).length) := by
    have h5 : o = 0 ∨ o = 1 ∨ o = 2 ∨ o = 3 ∨ o = 4 := by omega
    rcases h5 with rfl | rfl | rfl | rfl | rfl <;> rfl
  rw [h1]
  have h8 : d = 0 ∨ d = 1 ∨ d = 2 ∨ d = 3 ∨ d = 4 ∨ d = 5 ∨ d = 6 ∨ d = 7 := by omega
  congr 1
  rcases h8 with rfl | rfl | rfl | rfl | rfl | rfl | rfl | rfl <;> rcases ht with rfl | ⟨u, rfl⟩ <;> rfl
theorem lex_tail : ∀ (r : List (Nat × Nat)) (n at_ : Nat), (∀ p ∈ r, p.1 < 5 ∧ p.2 < 8) → 2 * r.length < n → lexL n (tailB r) at_ = toksOf r at_
  | [], n, at_, _, hn => by
    obtain ⟨m, rfl⟩ : ∃ m, n = m + 1 := ⟨n - 1, by omega⟩
    rfl
  | (o, d) :: r, n, at_, h, hn => by
    obtain ⟨m, rfl⟩ : ∃ m, n = m + 2 := ⟨n - 2, by simp at hn; omega⟩
    have h0 := h (o, d) (by simp)
    rw [tailB, lex_sgn o h0.1 d h0.2 _ (tail_head r), lex_tail r m _ (fun p hp => h p (by simp [hp])) (by simp at hn; omega)]
    rfl
end Go.Proofs.Ytmjpecjciibngaa
namespace Go.Proofs.Ytmjpecjciibngaa
open Go.RowKit
set_option linter.unusedVariables false

mutual
/-- A formula without its places. -/
def strip : Tree → Tree | .node k _ v ks => .node k 0 v (stripL ks)
def stripL : List Tree → List Tree | [] => [] | t :: ts => strip t :: stripL ts
end
abbrev leafT (d : Nat) : Tree := .node 1 0 d []
abbrev Row := List (Nat × Nat)
abbrev GoodRow (r : Row) : Prop := ∀ p ∈ r, p.1 < 5 ∧ p.2 < 8
abbrev FRd := Nat → Row → Tree × Row
def fun_ : FRd := fun d r => (leafT d, r)
def fgo (k : Nat) (F : FRd) : Nat → Tree → Row → Tree × Row
  | 0, a, r => (a, r)
  | n + 1, a, [] => (a, [])
  | n + 1, a, (j, y) :: r => if j = k then fgo k F n (.node (kd k) 0 0 [a, (F y r).1]) (F y r).2 else (a, (j, y) :: r)
def fchain (k : Nat) (F : FRd) : FRd := fun d r => fgo k F (2 * (F d r).2.length + 1) (F d r).1 (F d r).2
def Suf (F : FRd) : Prop := ∀ d r, (F d r).2 <:+ r
theorem suf_un : Suf fun_ := fun d r => List.suffix_refl r
theorem fgo_suf {k : Nat} {F : FRd} (h : Suf F) : ∀ n a r, (fgo k F n a r).2 <:+ r
  | 0, a, r => List.suffix_refl r
  | n + 1, a, [] => List.suffix_refl _
  | n + 1, a, (j, y) :: r => by
    unfold fgo
    split
    · exact ((fgo_suf h n _ _).trans (h y r)).trans (List.suffix_cons _ _)
    · exact List.suffix_refl _
theorem suf_chain {k : Nat} {F : FRd} (h : Suf F) : Suf (fchain k F) := fun d r => (fgo_suf h _ _ _).trans (h d r)

/-- The reader reads rows of at most m operators as F does. -/
def Reads (m : Nat) (rd : Rd) (F : FRd) : Prop := ∀ (d : Nat) (r : Row) (p : PS) (at_ : Nat), d < 8 → GoodRow r → r.length ≤ m → p.e = 0 → p.depth + r.length ≤ 30 → p.toks = (vtok d, at_) :: toksOf r (at_ + 2) →
  ∃ at', strip (rd p).1 = (F d r).1 ∧ (rd p).2 = { p with toks := toksOf (F d r).2 at' }
theorem un_flat (un iff_ : Rd) (d : Nat) (hd : d < 8) (p : PS) (at_ : Nat) (rest : List Tok) (he : p.e = 0) (ht : p.toks = (vtok d, at_) :: rest) : unP un iff_ p = (.node 1 at_ d [], { p with toks := rest }) := by
  have hh : p.hd = (vtok d, at_) := by unfold PS.hd; rw [ht]; rfl
  have hg : p.goes = { p with toks := rest } := by unfold PS.goes; rw [ht]; rfl
  have hv : isVar (vtok d) = true ∧ digitOf (vtok d) 1 = d ∧ vtok d ≠ [33] ∧ vtok d ≠ [97, 108, 108] ∧ vtok d ≠ [97, 110, 121] := by
    have h8 : d = 0 ∨ d = 1 ∨ d = 2 ∨ d = 3 ∨ d = 4 ∨ d = 5 ∨ d = 6 ∨ d = 7 := by omega
    rcases h8 with rfl | rfl | rfl | rfl | rfl | rfl | rfl | rfl <;> decide
  obtain ⟨h1, h2, h3, h4, h5⟩ := hv
  unfold unP primP PS.may
  simp only [hh, he, h1, h2, h3, h4, h5, hg, ne_eq, not_true_eq_false, and_false, if_false, if_true, Bool.false_eq_true, true_and]
theorem reads_un (m : Nat) (un iff_ : Rd) : Reads m (unP un iff_) fun_ := by
  intro d r p at_ hd hr hl he hdp ht
  rw [un_flat un iff_ d hd p at_ _ he ht]
  exact ⟨at_ + 2, by unfold strip stripL; rfl, rfl⟩
theorem sgn_inj {j k : Nat} (hj : j < 5) (hk : k < 5) : sgn j = sgn k ↔ j = k := by
  constructor
  · intro h
    have h5 : j = 0 ∨ j = 1 ∨ j = 2 ∨ j = 3 ∨ j = 4 := by omega
    have k5 : k = 0 ∨ k = 1 ∨ k = 2 ∨ k = 3 ∨ k = 4 := by omega
    rcases h5 with rfl | rfl | rfl | rfl | rfl <;> rcases k5 with rfl | rfl | rfl | rfl | rfl <;> first | rfl | (exfalso; revert h; decide)
  · intro h; rw [h]
theorem sgn_ne (k : Nat) : sgn k ≠ [] := by unfold sgn; split <;> simp
theorem mayF_end (p : PS) (at_ k : Nat) (ht : p.toks = toksOf [] at_) : p.may (sgn k) = (false, p) := by
  have hh : p.hd.1 = [] := by unfold PS.hd; rw [ht]; rfl
  unfold PS.may
  rw [if_neg]
  rintro ⟨_, h⟩
  rw [hh] at h
  exact sgn_ne k h.symm
theorem mayF_no (p : PS) (at_ j y k : Nat) (r : Row) (hj : j < 5) (hk : k < 5) (hjk : j ≠ k) (ht : p.toks = toksOf ((j, y) :: r) at_) : p.may (sgn k) = (false, p) := by
  have hh : p.hd.1 = sgn j := by unfold PS.hd; rw [ht]; rfl
  unfold PS.may
  rw [if_neg]
  rintro ⟨_, h⟩
  rw [hh] at h
  exact hjk ((sgn_inj hj hk).1 h)
theorem mayF_yes (p : PS) (at_ y k : Nat) (r : Row) (he : p.e = 0) (ht : p.toks = toksOf ((k, y) :: r) at_) :
    p.may (sgn k) = (true, { p with toks := (vtok y, at_ + 1 + (sgn k).length + 1) :: toksOf r (at_ + 1 + (sgn k).length + 1 + 2) }) := by
  have hh : p.hd.1 = sgn k := by unfold PS.hd; rw [ht]; rfl
  unfold PS.may
  rw [if_pos ⟨he, hh⟩]
  unfold PS.goes
  rw [ht]; rfl
theorem suf_len {F : FRd} (h : Suf F) (d : Nat) (r : Row) : (F d r).2.length ≤ r.length := (h d r).length_le
theorem suf_good {F : FRd} (h : Suf F) {d : Nat} {r : Row} (hr : GoodRow r) : GoodRow (F d r).2 := fun p hp => hr p ((h d r).subset hp)
theorem chainGo_flat {m : Nat} {rd : Rd} {F : FRd} (hR : Reads m rd F) (hS : Suf F) (k : Nat) (hk : k < 5) : ∀ (n : Nat) (e : Tree) (p : PS) (r : Row) (at_ : Nat), GoodRow r → r.length ≤ m → p.e = 0 → p.depth + r.length ≤ 30 → p.toks = toksOf r at_ →
    ∃ at', strip (chainGo (sgn k) (kd k) rd n e p).1 = (fgo k F n (strip e) r).1 ∧ (chainGo (sgn k) (kd k) rd n e p).2 = { p with toks := toksOf (fgo k F n (strip e) r).2 at' }
  | 0, e, p, r, at_, _, _, _, _, ht => ⟨at_, rfl, by show p = _; rw [show (fgo k F 0 (strip e) r).2 = r from rfl, ← ht]⟩
  | n + 1, e, p, [], at_, _, _, _, _, ht => by
    rw [chainGo]
    simp only [mayF_end p at_ k ht, Bool.false_eq_true, if_false]
    exact ⟨at_, rfl, by rw [show (fgo k F (n + 1) (strip e) []).2 = [] from rfl, ← ht]⟩
  | n + 1, e, p, (j, y) :: r, at_, hr, hl, he, hd, ht => by
    have hj := hr (j, y) (by simp)
    rw [chainGo]
    by_cases hjk : j = k
    · subst hjk
      simp only [mayF_yes p at_ y j r he ht, if_true]
      have hr' : GoodRow r := fun q hq => hr q (by simp [hq])
      simp only [List.length_cons] at hl hd
      obtain ⟨a1, h1, h2⟩ := hR y r { p with toks := (vtok y, at_ + 1 + (sgn j).length + 1) :: toksOf r (at_ + 1 + (sgn j).length + 1 + 2) } _ hj.2 hr' (by omega) he (by show p.depth + r.length ≤ 30; omega) rfl
      rw [h2]
      have hlen := suf_len hS y r
      obtain ⟨a2, h3, h4⟩ := chainGo_flat hR hS j hk n (.node (kd j) p.at_ 0 [e, (rd { p with toks := (vtok y, at_ + 1 + (sgn j).length + 1) :: toksOf r (at_ + 1 + (sgn j).length + 1 + 2) }).1]) { p with toks := toksOf (F y r).2 a1 } (F y r).2 a1 (suf_good hS hr') (by omega) he (by show p.depth + _ ≤ 30; omega) rfl
      have hst : strip (.node (kd j) p.at_ 0 [e, (rd { p with toks := (vtok y, at_ + 1 + (sgn j).length + 1) :: toksOf r (at_ + 1 + (sgn j).length + 1 + 2) }).1]) = .node (kd j) 0 0 [strip e, (F y r).1] := by
        simp only [strip, stripL, h1]
      rw [hst] at h3 h4
      have hf : fgo j F (n + 1) (strip e) ((j, y) :: r) = fgo j F n (.node (kd j) 0 0 [strip e, (F y r).1]) (F y r).2 := by rw [fgo, if_pos rfl]
      rw [hf]
      exact ⟨a2, h3, h4⟩
    · simp only [mayF_no p at_ j y k r hj.1 hk hjk ht, Bool.false_eq_true, if_false]
      have hf : fgo k F (n + 1) (strip e) ((j, y) :: r) = (strip e, (j, y) :: r) := by rw [fgo, if_neg hjk]
      rw [hf]
      exact ⟨at_, rfl, by rw [← ht]⟩
theorem toks_len : ∀ (r : Row) (at_ : Nat), (toksOf r at_).length = 2 * r.length + 1
  | [], _ => rfl
  | (o, d) :: r, at_ => by simp only [toksOf, List.length_cons, toks_len r]; omega
theorem reads_chain {m : Nat} {rd : Rd} {F : FRd} (hR : Reads m rd F) (hS : Suf F) (k : Nat) (hk : k < 5) : Reads m (chain (sgn k) (kd k) rd) (fchain k F) := by
  intro d r p at_ hd hr hl he hdp ht
  obtain ⟨a1, h1, h2⟩ := hR d r p at_ hd hr hl he hdp ht
  have hlen := suf_len hS d r
  obtain ⟨a2, h3, h4⟩ := chainGo_flat hR hS k hk ((rd p).2.toks.length) (rd p).1 (rd p).2 (F d r).2 a1 (suf_good hS hr) (by omega) (by rw [h2]; exact he) (by rw [h2]; show p.depth + _ ≤ 30; omega) (by rw [h2])
  have hn : (rd p).2.toks.length = 2 * (F d r).2.length + 1 := by rw [h2]; exact toks_len _ _
  refine ⟨a2, ?_, ?_⟩
  · unfold chain fchain
    rw [h3, hn, h1]
  · unfold chain fchain
    rw [h4, hn, h1, h2]
def fimp1 (Fo Fi : FRd) : FRd := fun d r =>
  match (Fo d r).2 with
  | [] => Fo d r
  | (j, y) :: r' => if j = 3 then (.node 7 0 0 [(Fo d r).1, (Fi y r').1], (Fi y r').2) else Fo d r
theorem suf_imp {Fo Fi : FRd} (ho : Suf Fo) (hi : Suf Fi) : Suf (fimp1 Fo Fi) := by
  intro d r
  unfold fimp1
  have h := ho d r
  split
  · exact h
  · next j y r' e =>
    split
    · rw [e] at h
      exact ((hi y r').trans (List.suffix_cons _ _)).trans h
    · exact h
theorem within_flat (rd : Rd) (p : PS) (hd : p.depth < 30) (he : p.e = 0) : within rd p = ((rd { p with depth := p.depth + 1 }).1, { (rd { p with depth := p.depth + 1 }).2 with depth := (rd { p with depth := p.depth + 1 }).2.depth - 1 }) := by
  unfold within
  have : ¬ 30 < p.depth + 1 := by omega
  simp only [this, if_false, he, ne_eq, not_true_eq_false]
theorem reads_imp {m : Nat} {un imp : Rd} {Fo Fi : FRd} (ho : Reads (m + 1) (orP un) Fo) (hi : Reads m imp Fi) (hS : Suf Fo) : Reads (m + 1) (impP un imp) (fimp1 Fo Fi) := by
  intro d r p at_ hd hr hl he hdp ht
  obtain ⟨a1, h1, h2⟩ := ho d r p at_ hd hr hl he hdp ht
  have hlen := suf_len hS d r
  have hg := suf_good (d := d) hS hr
  unfold impP fimp1
  generalize hq : (Fo d r).2 = q at *
  cases q with
  | nil =>
    have hm := mayF_end (orP un p).2 a1 3 (by rw [h2])
    simp only [show ([45, 62] : Bs) = sgn 3 from rfl, hm, Bool.false_eq_true, if_false]
    exact ⟨a1, h1, by rw [h2, hq]⟩
  | cons jy r' =>
    obtain ⟨j, y⟩ := jy
    have hj := hg (j, y) (by simp)
    by_cases h3 : j = 3
    · subst h3
      have hm := mayF_yes (orP un p).2 a1 y 3 r' (by rw [h2]; exact he) (by rw [h2])
      simp only [show ([45, 62] : Bs) = sgn 3 from rfl, hm, if_true]
      simp only [List.length_cons] at hlen
      have hp2 : ({ (orP un p).2 with toks := (vtok y, a1 + 1 + (sgn 3).length + 1) :: toksOf r' (a1 + 1 + (sgn 3).length + 1 + 2) } : PS) = { p with toks := (vtok y, a1 + 1 + (sgn 3).length + 1) :: toksOf r' (a1 + 1 + (sgn 3).length + 1 + 2) } := by rw [h2]
      have hw := within_flat imp { p with toks := (vtok y, a1 + 1 + (sgn 3).length + 1) :: toksOf r' (a1 + 1 + (sgn 3).length + 1 + 2) } (by show p.depth < 30; omega) he
      rw [hp2, hw]
      obtain ⟨a2, h4, h5⟩ := hi y r' { p with toks := (vtok y, a1 + 1 + (sgn 3).length + 1) :: toksOf r' (a1 + 1 + (sgn 3).length + 1 + 2), depth := p.depth + 1 } _ hj.2 (fun q hq => hg q (by simp [hq])) (by omega) he (by show p.depth + 1 + r'.length ≤ 30; omega) rfl
      refine ⟨a2, ?_, ?_⟩
      · simp only [strip, stripL, h1, h4]
      · rw [h5]; rfl
    · have hm := mayF_no (orP un p).2 a1 j y 3 r' hj.1 (by omega) h3 (by rw [h2])
      simp only [show ([45, 62] : Bs) = sgn 3 from rfl, hm, Bool.false_eq_true, if_false, if_neg h3]
      exact ⟨a1, h1, by rw [h2, hq]⟩
def fOr : FRd := fchain 2 (fchain 1 (fchain 0 fun_))
def fImp : Nat → FRd
  | 0 => fun d r => (.zero, r)
  | n + 1 => fimp1 fOr (fImp n)
theorem suf_or : Suf fOr := suf_chain (suf_chain (suf_chain suf_un))
theorem suf_fimp : ∀ n, Suf (fImp n)
  | 0 => fun d r => List.suffix_refl r
  | n + 1 => suf_imp suf_or (suf_fimp n)
theorem reads_or (m : Nat) (un iff_ : Rd) : Reads m (orP (unP un iff_)) fOr :=
  reads_chain (reads_chain (reads_chain (reads_un m un iff_) suf_un 0 (by omega)) (suf_chain suf_un) 1 (by omega)) (suf_chain (suf_chain suf_un)) 2 (by omega)
theorem reads_zero (rd : Rd) (m : Nat) (un : Rd) (Fi : FRd) (iff_ : Rd) : Reads 0 (impP (unP un iff_) rd) (fimp1 fOr Fi) := by
  intro d r p at_ hd hr hl he hdp ht
  obtain rfl : r = [] := List.eq_nil_of_length_eq_zero (by omega)
  obtain ⟨a1, h1, h2⟩ := reads_or 0 un iff_ d [] p at_ hd hr hl he hdp ht
  have hq : (fOr d []).2 = [] := List.eq_nil_of_length_eq_zero (by have := suf_len suf_or d []; simpa using this)
  rw [hq] at h2
  have hm := mayF_end (orP (unP un iff_) p).2 a1 3 (by rw [h2])
  unfold impP fimp1
  simp only [show ([45, 62] : Bs) = sgn 3 from rfl, hm, Bool.false_eq_true, if_false, hq]
  exact ⟨a1, h1, h2⟩
theorem reads_lev : ∀ n, Reads n (lev (n + 1)).imp (fImp (n + 1))
  | 0 => reads_zero _ 0 _ _ _
  | n + 1 => by
    have ih := reads_lev n
    show Reads (n + 1) (impP (unP (lev (n + 1)).un (lev (n + 1)).iff_) (lev (n + 1)).imp) (fimp1 fOr (fImp (n + 1)))
    exact reads_imp (reads_or (n + 1) _ _) ih suf_or
def fIff (n : Nat) : FRd := fchain 4 (fImp n)
theorem reads_iff (n : Nat) : Reads n (lev (n + 1)).iff_ (fIff (n + 1)) := reads_chain (reads_lev n) (suf_fimp _) 4 (by omega)
end Go.Proofs.Ytmjpecjciibngaa
namespace Go.Proofs.Ytmjpecjciibngaa
open Go.RowKit
set_option linter.unusedVariables false

def jnT (k : Nat) (a b : Tree) : Tree := .node (kd k) 0 0 [a, b]
def rowT (r : Row) : List (Nat × Tree) := r.map fun p => (p.1, leafT p.2)
abbrev Mg := Tree → List (Nat × Tree) → Tree × List (Nat × Tree)
def cont (N : Mg) : Row → List (Nat × Tree)
  | [] => []
  | (j, y) :: r => (j, (N (leafT y) (rowT r)).1) :: (N (leafT y) (rowT r)).2
def hdGe (k : Nat) (r : Row) : Prop := ∀ j y r', r = (j, y) :: r' → k ≤ j
/-- N and F come to the same on rows of at most m; behind what F reads stands a sign from k on. -/
def Comes (m k : Nat) (N : Mg) (F : FRd) : Prop := ∀ d r, r.length ≤ m → N (leafT d) (rowT r) = ((F d r).1, cont N (F d r).2) ∧ hdGe k (F d r).2
def upL (k : Nat) (N : Mg) : Mg := fun x r => mergeL jnT k (N x r).1 (N x r).2
def upR (k : Nat) (N : Mg) : Mg := fun x r => mergeR jnT k (N x r).1 (N x r).2
theorem comes_un (m : Nat) : Comes m 0 (fun x r => (x, r)) fun_ := by
  intro d r _
  refine ⟨?_, fun j y r' _ => Nat.zero_le _⟩
  cases r with
  | nil => rfl
  | cons q r' => rfl
theorem fgo_comes {m k : Nat} {N : Mg} {F : FRd} (h : Comes m k N F) (hS : Suf F) : ∀ (n : Nat) (a : Tree) (r : Row), r.length < n → r.length ≤ m → hdGe k r →
    mergeL jnT k a (cont N r) = ((fgo k F n a r).1, cont (upL k N) (fgo k F n a r).2) ∧ hdGe (k + 1) (fgo k F n a r).2
  | 0, a, r, hn, _, _ => absurd hn (by omega)
  | n + 1, a, [], _, _, _ => ⟨rfl, fun j y r' e => by cases e⟩
  | n + 1, a, (j, y) :: r, hn, hm, hg => by
    simp only [List.length_cons] at hn hm
    have hN := h y r (by omega)
    have hlen := suf_len hS y r
    have hj := hg j y r rfl
    by_cases hjk : j = k
    · subst hjk
      rw [fgo, if_pos rfl, cont, hN.1, mergeL, if_pos rfl]
      exact fgo_comes h hS n _ _ (by omega) (by omega) hN.2
    · rw [fgo, if_neg hjk, cont, mergeL, if_neg hjk]
      refine ⟨rfl, fun j' y' r' e => ?_⟩
      cases e
      omega
theorem comes_chain {m k : Nat} {N : Mg} {F : FRd} (h : Comes m k N F) (hS : Suf F) : Comes m (k + 1) (upL k N) (fchain k F) := by
  intro d r hr
  have h1 := h d r hr
  have hlen := suf_len hS d r
  have h2 := fgo_comes h hS (2 * (F d r).2.length + 1) (F d r).1 (F d r).2 (by omega) (by omega) h1.2
  refine ⟨?_, h2.2⟩
  show mergeL jnT k (N (leafT d) (rowT r)).1 (N (leafT d) (rowT r)).2 = _
  rw [h1.1]
  exact h2.1
theorem comes_imp1 {m : Nat} {N : Mg} {Fo Fi : FRd} (h : Comes (m + 1) 3 N Fo) (hS : Suf Fo) (hi : Comes m 4 (upR 3 N) Fi) : Comes (m + 1) 4 (upR 3 N) (fimp1 Fo Fi) := by
  intro d r hr
  have h1 := h d r hr
  have hlen := suf_len hS d r
  have hu : upR 3 N (leafT d) (rowT r) = mergeR jnT 3 (Fo d r).1 (cont N (Fo d r).2) := by
    show mergeR jnT 3 (N (leafT d) (rowT r)).1 (N (leafT d) (rowT r)).2 = _
    rw [h1.1]
  rw [hu]
  unfold fimp1
  have hg := h1.2
  generalize hq : (Fo d r).2 = q at *
  cases q with
  | nil =>
    show mergeR jnT 3 (Fo d r).1 [] = ((Fo d r).1, cont (upR 3 N) (Fo d r).2) ∧ hdGe 4 (Fo d r).2
    rw [hq]
    exact ⟨rfl, fun j y r' e => by cases e⟩
  | cons jy r' =>
    obtain ⟨j, y⟩ := jy
    have hj := hg j y r' rfl
    simp only [List.length_cons] at hlen
    by_cases h3 : j = 3
    · subst h3
      have h4 := hi y r' (by omega)
      simp only [if_true]
      rw [cont, mergeR, if_pos rfl]
      have e : mergeR jnT 3 (N (leafT y) (rowT r')).1 (N (leafT y) (rowT r')).2 = ((Fi y r').1, cont (upR 3 N) (Fi y r').2) := h4.1
      rw [e]
      exact ⟨rfl, h4.2⟩
    · simp only [if_neg h3]
      rw [cont, mergeR, if_neg h3, hq]
      refine ⟨rfl, fun j' y' r'' e => ?_⟩
      cases e
      omega
def nOr : Mg := upL 2 (upL 1 (upL 0 fun x r => (x, r)))
theorem comes_or (m : Nat) : Comes m 3 nOr fOr := comes_chain (comes_chain (comes_chain (comes_un m) suf_un) (suf_chain suf_un)) (suf_chain (suf_chain suf_un))
theorem comes_imp0 (Fi : FRd) : Comes 0 4 (upR 3 nOr) (fimp1 fOr Fi) := by
  intro d r hr
  obtain rfl : r = [] := List.eq_nil_of_length_eq_zero (by omega)
  have h1 := comes_or 0 d [] (by simp)
  have hq : (fOr d []).2 = [] := List.eq_nil_of_length_eq_zero (by have := suf_len suf_or d []; simpa using this)
  have hu : upR 3 nOr (leafT d) (rowT []) = mergeR jnT 3 (fOr d []).1 (cont nOr (fOr d []).2) := by
    show mergeR jnT 3 (nOr (leafT d) (rowT [])).1 (nOr (leafT d) (rowT [])).2 = _
    rw [h1.1]
  rw [hu]
  unfold fimp1
  rw [hq]
  simp only [hq]
  exact ⟨rfl, fun j y r' e => by cases e⟩
theorem comes_imp : ∀ n, Comes n 4 (upR 3 nOr) (fImp (n + 1))
  | 0 => comes_imp0 _
  | n + 1 => comes_imp1 (comes_or (n + 1)) suf_or (comes_imp n)
def nAll : Mg := upL 4 (upR 3 nOr)
theorem comes_all (n : Nat) : Comes n 5 nAll (fIff (n + 1)) := comes_chain (comes_imp n) (suf_fimp _)
/-- The whole row. -/
theorem all_row (n d : Nat) (r : Row) (hr : GoodRow r) (hn : r.length ≤ n) : nAll (leafT d) (rowT r) = ((fIff (n + 1) d r).1, []) ∧ (fIff (n + 1) d r).2 = [] := by
  have h := comes_all n d r hn
  have hs : Suf (fIff (n + 1)) := suf_chain (suf_fimp _)
  have hg := suf_good (d := d) hs hr
  have hq : (fIff (n + 1) d r).2 = [] := by
    generalize (fIff (n + 1) d r).2 = q at *
    cases q with
    | nil => rfl
    | cons jy r' =>
      have h1 := h.2 jy.1 jy.2 r' rfl
      have h2 := (hg jy (by simp)).1
      omega
  rw [h.1, hq]
  exact ⟨rfl, rfl⟩
end Go.Proofs.Ytmjpecjciibngaa
namespace Go.Proofs.Ytmjpecjciibngaa
open Go.RowKit
set_option linter.unusedVariables false

mutual
/-- How many formulas a formula has, itself too. -/
def sizeT : Tree → Nat | .node _ _ _ ks => sizeL ks + 1
def sizeL : List Tree → Nat | [] => 0 | t :: ts => sizeT t + sizeL ts
end
theorem sizeL_app : ∀ a b : List Tree, sizeL (a ++ b) = sizeL a + sizeL b
  | [], b => by simp [sizeL]
  | t :: a, b => by simp only [List.cons_append, sizeL, sizeL_app a b]; omega
theorem allPL_all : ∀ l : List Tree, allPL l = true → ∀ t ∈ l, allP t = true
  | [], _, t, h => absurd h (by simp)
  | u :: us, h, t, hm => by
    unfold allPL at h
    simp only [Bool.and_eq_true] at h
    rcases List.mem_cons.1 hm with rfl | hm
    · exact h.1
    · exact allPL_all us h.2 t hm
theorem isGo_of : ∀ (n : Nat) (l : List Tree), (∀ t ∈ l, allP t = true) → sizeL l ≤ n → isGo n l = true
  | 0, l, h, hs => by
    cases l with
    | nil => rfl
    | cons t ts =>
      cases t
      simp only [sizeL, sizeT] at hs
      omega
  | n + 1, l, h, hs => by
    rcases nil_or_snoc l with rfl | ⟨l', t, rfl⟩
    · exact isGo_nil _
    · rw [isGo_snoc]
      have ht := h t (by simp)
      cases t with
      | node k a v ks =>
        unfold allP at ht
        rw [Bool.and_eq_true] at ht
        rw [Bool.and_eq_true]
        refine ⟨ht.1, isGo_of n _ (fun u hu => ?_) ?_⟩
        · rcases List.mem_append.1 hu with hu | hu
          · exact h u (by simp [hu])
          · exact allPL_all ks ht.2 u hu
        · rw [sizeL_app] at hs ⊢
          simp only [sizeL, sizeT, Tree.kids] at hs ⊢
          omega
theorem isT_of {t : Tree} (h : allP t = true) (hs : sizeT t ≤ 4000) : isT t = true := isGo_of 4000 [t] (by simpa using h) (by simpa [sizeL] using hs)
mutual
theorem small_of : ∀ t : Tree, allP t = true → smallT t = true
  | .node k a v ks, h => by
    unfold allP at h
    rw [Bool.and_eq_true] at h
    unfold smallT
    rw [Bool.and_eq_true]
    exact ⟨by simpa using plainB_le h.1, smallL_of ks h.2⟩
theorem smallL_of : ∀ l : List Tree, allPL l = true → smallL l = true
  | [], _ => by unfold smallL; rfl
  | t :: ts, h => by
    unfold allPL at h
    rw [Bool.and_eq_true] at h
    unfold smallL
    rw [Bool.and_eq_true]
    exact ⟨small_of t h.1, smallL_of ts h.2⟩
end
mutual
theorem strip_allP : ∀ t : Tree, allP (strip t) = allP t
  | .node k a v ks => by simp only [strip, allP, stripL_len ks, stripL_allP ks]
theorem stripL_allP : ∀ l : List Tree, allPL (stripL l) = allPL l
  | [] => rfl
  | t :: ts => by simp only [stripL, allPL, strip_allP t, stripL_allP ts]
theorem stripL_len : ∀ l : List Tree, (stripL l).length = l.length
  | [] => rfl
  | t :: ts => by simp only [stripL, List.length_cons, stripL_len ts]
end
mutual
theorem strip_size : ∀ t : Tree, sizeT (strip t) = sizeT t
  | .node k a v ks => by simp only [strip, sizeT, stripL_size ks]
theorem stripL_size : ∀ l : List Tree, sizeL (stripL l) = sizeL l
  | [] => rfl
  | t :: ts => by simp only [stripL, sizeL, strip_size t, stripL_size ts]
end
mutual
theorem strip_tb : ∀ t : Tree, tb (strip t) = tb t
  | .node k a v ks => by simp only [strip, tb, stripL_tbs ks]
theorem stripL_tbs : ∀ l : List Tree, tbs (stripL l) = tbs l
  | [] => rfl
  | t :: ts => by simp only [stripL, tbs, strip_tb t, stripL_tbs ts]
end

/-- A row of formulas with good signs, of s nodes in all when joined. -/
def GoodT (x : Tree) (r : List (Nat × Tree)) : Prop := allP x = true ∧ ∀ p ∈ r, p.1 < 5 ∧ allP p.2 = true
def sizeR (r : List (Nat × Tree)) : Nat := (r.map fun p => sizeT p.2 + 1).sum
theorem allP_jn {k : Nat} (hk : k < 5) {a b : Tree} (ha : allP a = true) (hb : allP b = true) : allP (jnT k a b) = true := by
  have h5 : k = 0 ∨ k = 1 ∨ k = 2 ∨ k = 3 ∨ k = 4 := by omega
  unfold jnT
  rcases h5 with rfl | rfl | rfl | rfl | rfl <;> simp only [allP, allPL, ha, hb, kd, List.length_cons, List.length_nil] <;> decide
theorem size_jn (k : Nat) (a b : Tree) : sizeT (jnT k a b) = sizeT a + sizeT b + 1 := by simp only [jnT, sizeT, sizeL]; omega
theorem mergeL_good (k : Nat) (hk : k < 5) : ∀ (r : List (Nat × Tree)) (x : Tree), GoodT x r → GoodT (mergeL jnT k x r).1 (mergeL jnT k x r).2 ∧ sizeT (mergeL jnT k x r).1 + sizeR (mergeL jnT k x r).2 = sizeT x + sizeR r
  | [], x, h => ⟨h, rfl⟩
  | (j, y) :: r, x, h => by
    have hy := h.2 (j, y) (by simp)
    have hr : ∀ p ∈ r, p.1 < 5 ∧ allP p.2 = true := fun p hp => h.2 p (by simp [hp])
    unfold mergeL
    split
    · next e =>
      have := mergeL_good k hk r (jnT k x y) ⟨allP_jn hk h.1 hy.2, hr⟩
      refine ⟨this.1, this.2.trans ?_⟩
      rw [size_jn]; simp only [sizeR, List.map_cons, List.sum_cons]; omega
    · have := mergeL_good k hk r y ⟨hy.2, hr⟩
      refine ⟨⟨h.1, fun p hp => ?_⟩, ?_⟩
      · rcases List.mem_cons.1 hp with rfl | hp
        · exact ⟨hy.1, this.1.1⟩
        · exact this.1.2 p hp
      · have h2 := this.2
        simp only [sizeR, List.map_cons, List.sum_cons] at h2 ⊢
        omega
theorem mergeR_good (k : Nat) (hk : k < 5) : ∀ (r : List (Nat × Tree)) (x : Tree), GoodT x r → GoodT (mergeR jnT k x r).1 (mergeR jnT k x r).2 ∧ sizeT (mergeR jnT k x r).1 + sizeR (mergeR jnT k x r).2 = sizeT x + sizeR r
  | [], x, h => ⟨h, rfl⟩
  | (j, y) :: r, x, h => by
    have hy := h.2 (j, y) (by simp)
    have hr : ∀ p ∈ r, p.1 < 5 ∧ allP p.2 = true := fun p hp => h.2 p (by simp [hp])
    have := mergeR_good k hk r y ⟨hy.2, hr⟩
    have h2 := this.2
    unfold mergeR
    split
    · refine ⟨⟨allP_jn hk h.1 this.1.1, this.1.2⟩, ?_⟩
      simp only [size_jn, sizeR, List.map_cons, List.sum_cons] at h2 ⊢
      omega
    · refine ⟨⟨h.1, fun p hp => ?_⟩, ?_⟩
      · rcases List.mem_cons.1 hp with rfl | hp
        · exact ⟨hy.1, this.1.1⟩
        · exact this.1.2 p hp
      · simp only [sizeR, List.map_cons, List.sum_cons] at h2 ⊢
        omega
theorem nAll_good {x : Tree} {r : List (Nat × Tree)} (h : GoodT x r) : GoodT (nAll x r).1 (nAll x r).2 ∧ sizeT (nAll x r).1 + sizeR (nAll x r).2 = sizeT x + sizeR r := by
  have h0 := mergeL_good 0 (by omega) r x h
  have h1 := mergeL_good 1 (by omega) _ _ h0.1
  have h2 := mergeL_good 2 (by omega) _ _ h1.1
  have h3 := mergeR_good 3 (by omega) _ _ h2.1
  have h4 := mergeL_good 4 (by omega) _ _ h3.1
  exact ⟨h4.1, h4.2.trans (h3.2.trans (h2.2.trans (h1.2.trans h0.2)))⟩
theorem tail_len : ∀ r : Row, 5 * r.length ≤ (tailB r).length ∧ (tailB r).length ≤ 7 * r.length
  | [] => by simp [tailB]
  | (o, d) :: r => by
    have := tail_len r
    have hs : 1 ≤ (sgn o).length ∧ (sgn o).length ≤ 3 := by unfold sgn; split <;> simp
    simp only [tailB, List.length_cons, List.length_append, List.length_nil]
    omega
/-- The text of the row. -/
def textR (d : Nat) (r : Row) : Bs := vtok d ++ tailB r
theorem parse_row (d : Nat) (r : Row) (hd : d < 8) (hr : GoodRow r) (hl : r.length ≤ 30) : ∃ t, parseL (textR d r) = (t, 0, 0) ∧ strip t = (nAll (leafT d) (rowT r)).1 ∧ (nAll (leafT d) (rowT r)).2 = [] := by
  have hlen := tail_len r
  have hl2 : (textR d r).length = 2 + (tailB r).length := by simp [textR]; omega
  have hlex : lexFrom (textR d r) 0 = (vtok d, 0) :: toksOf r 2 := by
    unfold lexFrom
    rw [List.drop_zero]
    show lexL ((textR d r).length + 1) (vtok d ++ tailB r) 0 = _
    rw [lex_var d hd _ (tail_head r), lex_tail r _ _ hr (by omega)]
  obtain ⟨at', h1, h2⟩ := reads_iff 30 d r { toks := lexFrom (textR d r) 0, depth := 0, e := 0, eat := 0 } 0 hd hr hl rfl (by show 0 + r.length ≤ 30; omega) hlex
  have h3 := all_row 30 d r hr hl
  rw [h3.2] at h2
  refine ⟨((lev 31).iff_ { toks := lexFrom (textR d r) 0, depth := 0, e := 0, eat := 0 }).1, ?_, ?_, ?_⟩
  · unfold parseL
    rw [if_neg (by omega)]
    generalize (lev 31).iff_ { toks := lexFrom (textR d r) 0, depth := 0, e := 0, eat := 0 } = R at *
    simp only [h2]
    rfl
  · rw [h1, h3.1]
  · rw [h3.1]
end Go.Proofs.Ytmjpecjciibngaa
