/- The readers on rows of operators between variables. Plain facts. -/
import Derived.Test.YtmjpecjciibngaaFlat2
namespace Go.Proofs.Ytmjpecjciibngaa
open Go.RowKit
set_option linter.unusedVariables false

mutual
/-- A formula without its places. -/
def strip : Tree → Tree | .node k _ v ks => .node k 0 v (stripL ks)
def stripL : List Tree → List Tree | [] => [] | t :: ts => strip t :: stripL ts
end
abbrev leafT (d : Nat) : Tree := .node 1 0 d []
abbrev Row := List (Nat × Nat)
abbrev GoodRow (r : Row) : Prop := ∀ p ∈ r, p.1 < 5 ∧ p.2 < 8
abbrev FRd := Nat → Row → Tree × Row
def fun_ : FRd := fun d r => (leafT d, r)
def fgo (k : Nat) (F : FRd) : Nat → Tree → Row → Tree × Row
  | 0, a, r => (a, r)
  | n + 1, a, [] => (a, [])
  | n + 1, a, (j, y) :: r => if j = k then fgo k F n (.node (kd k) 0 0 [a, (F y r).1]) (F y r).2 else (a, (j, y) :: r)
def fchain (k : Nat) (F : FRd) : FRd := fun d r => fgo k F (2 * (F d r).2.length + 1) (F d r).1 (F d r).2
def Suf (F : FRd) : Prop := ∀ d r, (F d r).2 <:+ r
theorem suf_un : Suf fun_ := fun d r => List.suffix_refl r
theorem fgo_suf {k : Nat} {F : FRd} (h : Suf F) : ∀ n a r, (fgo k F n a r).2 <:+ r
  | 0, a, r => List.suffix_refl r
  | n + 1, a, [] => List.suffix_refl _
  | n + 1, a, (j, y) :: r => by
    unfold fgo
    split
    · exact ((fgo_suf h n _ _).trans (h y r)).trans (List.suffix_cons _ _)
    · exact List.suffix_refl _
theorem suf_chain {k : Nat} {F : FRd} (h : Suf F) : Suf (fchain k F) := fun d r => (fgo_suf h _ _ _).trans (h d r)

/-- The reader reads rows of at most m operators as F does. -/
def Reads (m : Nat) (rd : Rd) (F : FRd) : Prop := ∀ (d : Nat) (r : Row) (p : PS) (at_ : Nat), d < 8 → GoodRow r → r.length ≤ m → p.e = 0 → p.depth + r.length ≤ 30 → p.toks = (vtok d, at_) :: toksOf r (at_ + 2) →
  ∃ at', strip (rd p).1 = (F d r).1 ∧ (rd p).2 = { p with toks := toksOf (F d r).2 at' }
theorem un_flat (un iff_ : Rd) (d : Nat) (hd : d < 8) (p : PS) (at_ : Nat) (rest : List Tok) (he : p.e = 0) (ht : p.toks = (vtok d, at_) :: rest) : unP un iff_ p = (.node 1 at_ d [], { p with toks := rest }) := by
  have hh : p.hd = (vtok d, at_) := by unfold PS.hd; rw [ht]; rfl
  have hg : p.goes = { p with toks := rest } := by unfold PS.goes; rw [ht]; rfl
  have hv : isVar (vtok d) = true ∧ digitOf (vtok d) 1 = d ∧ vtok d ≠ [33] ∧ vtok d ≠ [97, 108, 108] ∧ vtok d ≠ [97, 110, 121] := by
    have h8 : d = 0 ∨ d = 1 ∨ d = 2 ∨ d = 3 ∨ d = 4 ∨ d = 5 ∨ d = 6 ∨ d = 7 := by omega
    rcases h8 with rfl | rfl | rfl | rfl | rfl | rfl | rfl | rfl <;> decide
  obtain ⟨h1, h2, h3, h4, h5⟩ := hv
  unfold unP primP PS.may
  simp only [hh, he, h1, h2, h3, h4, h5, hg, ne_eq, not_true_eq_false, and_false, if_false, if_true, Bool.false_eq_true, true_and]
theorem reads_un (m : Nat) (un iff_ : Rd) : Reads m (unP un iff_) fun_ := by
  intro d r p at_ hd hr hl he hdp ht
  rw [un_flat un iff_ d hd p at_ _ he ht]
  exact ⟨at_ + 2, by unfold strip stripL; rfl, rfl⟩
theorem sgn_inj {j k : Nat} (hj : j < 5) (hk : k < 5) : sgn j = sgn k ↔ j = k := by
  constructor
  · intro h
    have h5 : j = 0 ∨ j = 1 ∨ j = 2 ∨ j = 3 ∨ j = 4 := by omega
    have k5 : k = 0 ∨ k = 1 ∨ k = 2 ∨ k = 3 ∨ k = 4 := by omega
    rcases h5 with rfl | rfl | rfl | rfl | rfl <;> rcases k5 with rfl | rfl | rfl | rfl | rfl <;> first | rfl | (exfalso; revert h; decide)
  · intro h; rw [h]
theorem sgn_ne (k : Nat) : sgn k ≠ [] := by unfold sgn; split <;> simp
theorem mayF_end (p : PS) (at_ k : Nat) (ht : p.toks = toksOf [] at_) : p.may (sgn k) = (false, p) := by
  have hh : p.hd.1 = [] := by unfold PS.hd; rw [ht]; rfl
  unfold PS.may
  rw [if_neg]
  rintro ⟨_, h⟩
  rw [hh] at h
  exact sgn_ne k h.symm
theorem mayF_no (p : PS) (at_ j y k : Nat) (r : Row) (hj : j < 5) (hk : k < 5) (hjk : j ≠ k) (ht : p.toks = toksOf ((j, y) :: r) at_) : p.may (sgn k) = (false, p) := by
  have hh : p.hd.1 = sgn j := by unfold PS.hd; rw [ht]; rfl
  unfold PS.may
  rw [if_neg]
  rintro ⟨_, h⟩
  rw [hh] at h
  exact hjk ((sgn_inj hj hk).1 h)
theorem mayF_yes (p : PS) (at_ y k : Nat) (r : Row) (he : p.e = 0) (ht : p.toks = toksOf ((k, y) :: r) at_) :
    p.may (sgn k) = (true, { p with toks := (vtok y, at_ + 1 + (sgn k).length + 1) :: toksOf r (at_ + 1 + (sgn k).length + 1 + 2) }) := by
  have hh : p.hd.1 = sgn k := by unfold PS.hd; rw [ht]; rfl
  unfold PS.may
  rw [if_pos ⟨he, hh⟩]
  unfold PS.goes
  rw [ht]; rfl
theorem suf_len {F : FRd} (h : Suf F) (d : Nat) (r : Row) : (F d r).2.length ≤ r.length := (h d r).length_le
theorem suf_good {F : FRd} (h : Suf F) {d : Nat} {r : Row} (hr : GoodRow r) : GoodRow (F d r).2 := fun p hp => hr p ((h d r).subset hp)
theorem chainGo_flat {m : Nat} {rd : Rd} {F : FRd} (hR : Reads m rd F) (hS : Suf F) (k : Nat) (hk : k < 5) : ∀ (n : Nat) (e : Tree) (p : PS) (r : Row) (at_ : Nat), GoodRow r → r.length ≤ m → p.e = 0 → p.depth + r.length ≤ 30 → p.toks = toksOf r at_ →
    ∃ at', strip (chainGo (sgn k) (kd k) rd n e p).1 = (fgo k F n (strip e) r).1 ∧ (chainGo (sgn k) (kd k) rd n e p).2 = { p with toks := toksOf (fgo k F n (strip e) r).2 at' }
  | 0, e, p, r, at_, _, _, _, _, ht => ⟨at_, rfl, by show p = _; rw [show (fgo k F 0 (strip e) r).2 = r from rfl, ← ht]⟩
  | n + 1, e, p, [], at_, _, _, _, _, ht => by
    rw [chainGo]
    simp only [mayF_end p at_ k ht, Bool.false_eq_true, if_false]
    exact ⟨at_, rfl, by rw [show (fgo k F (n + 1) (strip e) []).2 = [] from rfl, ← ht]⟩
  | n + 1, e, p, (j, y) :: r, at_, hr, hl, he, hd, ht => by
    have hj := hr (j, y) (by simp)
    rw [chainGo]
    by_cases hjk : j = k
    · subst hjk
      simp only [mayF_yes p at_ y j r he ht, if_true]
      have hr' : GoodRow r := fun q hq => hr q (by simp [hq])
      simp only [List.length_cons] at hl hd
      obtain ⟨a1, h1, h2⟩ := hR y r { p with toks := (vtok y, at_ + 1 + (sgn j).length + 1) :: toksOf r (at_ + 1 + (sgn j).length + 1 + 2) } _ hj.2 hr' (by omega) he (by show p.depth + r.length ≤ 30; omega) rfl
      rw [h2]
      have hlen := suf_len hS y r
      obtain ⟨a2, h3, h4⟩ := chainGo_flat hR hS j hk n (.node (kd j) p.at_ 0 [e, (rd { p with toks := (vtok y, at_ + 1 + (sgn j).length + 1) :: toksOf r (at_ + 1 + (sgn j).length + 1 + 2) }).1]) { p with toks := toksOf (F y r).2 a1 } (F y r).2 a1 (suf_good hS hr') (by omega) he (by show p.depth + _ ≤ 30; omega) rfl
      have hst : strip (.node (kd j) p.at_ 0 [e, (rd { p with toks := (vtok y, at_ + 1 + (sgn j).length + 1) :: toksOf r (at_ + 1 + (sgn j).length + 1 + 2) }).1]) = .node (kd j) 0 0 [strip e, (F y r).1] := by
        simp only [strip, stripL, h1]
      rw [hst] at h3 h4
      have hf : fgo j F (n + 1) (strip e) ((j, y) :: r) = fgo j F n (.node (kd j) 0 0 [strip e, (F y r).1]) (F y r).2 := by rw [fgo, if_pos rfl]
      rw [hf]
      exact ⟨a2, h3, h4⟩
    · simp only [mayF_no p at_ j y k r hj.1 hk hjk ht, Bool.false_eq_true, if_false]
      have hf : fgo k F (n + 1) (strip e) ((j, y) :: r) = (strip e, (j, y) :: r) := by rw [fgo, if_neg hjk]
      rw [hf]
      exact ⟨at_, rfl, by rw [← ht]⟩
theorem toks_len : ∀ (r : Row) (at_ : Nat), (toksOf r at_).length = 2 * r.length + 1
  | [], _ => rfl
  | (o, d) :: r, at_ => by simp only [toksOf, List.length_cons, toks_len r]; omega
theorem reads_chain {m : Nat} {rd : Rd} {F : FRd} (hR : Reads m rd F) (hS : Suf F) (k : Nat) (hk : k < 5) : Reads m (chain (sgn k) (kd k) rd) (fchain k F) := by
  intro d r p at_ hd hr hl he hdp ht
  obtain ⟨a1, h1, h2⟩ := hR d r p at_ hd hr hl he hdp ht
  have hlen := suf_len hS d r
  obtain ⟨a2, h3, h4⟩ := chainGo_flat hR hS k hk ((rd p).2.toks.length) (rd p).1 (rd p).2 (F d r).2 a1 (suf_good hS hr) (by omega) (by rw [h2]; exact he) (by rw [h2]; show p.depth + _ ≤ 30; omega) (by rw [h2])
  have hn : (rd p).2.toks.length = 2 * (F d r).2.length + 1 := by rw [h2]; exact toks_len _ _
  refine ⟨a2, ?_, ?_⟩
  · unfold chain fchain
    rw [h3, hn, h1]
  · unfold chain fchain
    rw [h4, hn, h1, h2]
def fimp1 (Fo Fi : FRd) : FRd := fun d r =>
  match (Fo d r).2 with
  | [] => Fo d r
  | (j, y) :: r' => if j = 3 then (.node 7 0 0 [(Fo d r).1, (Fi y r').1], (Fi y r').2) else Fo d r
theorem suf_imp {Fo Fi : FRd} (ho : Suf Fo) (hi : Suf Fi) : Suf (fimp1 Fo Fi) := by
  intro d r
  unfold fimp1
  have h := ho d r
  split
  · exact h
  · next j y r' e =>
    split
    · rw [e] at h
      exact ((hi y r').trans (List.suffix_cons _ _)).trans h
    · exact h
theorem within_flat (rd : Rd) (p : PS) (hd : p.depth < 30) (he : p.e = 0) : within rd p = ((rd { p with depth := p.depth + 1 }).1, { (rd { p with depth := p.depth + 1 }).2 with depth := (rd { p with depth := p.depth + 1 }).2.depth - 1 }) := by
  unfold within
  have : ¬ 30 < p.depth + 1 := by omega
  simp only [this, if_false, he, ne_eq, not_true_eq_false]
theorem reads_imp {m : Nat} {un imp : Rd} {Fo Fi : FRd} (ho : Reads (m + 1) (orP un) Fo) (hi : Reads m imp Fi) (hS : Suf Fo) : Reads (m + 1) (impP un imp) (fimp1 Fo Fi) := by
  intro d r p at_ hd hr hl he hdp ht
  obtain ⟨a1, h1, h2⟩ := ho d r p at_ hd hr hl he hdp ht
  have hlen := suf_len hS d r
  have hg := suf_good (d := d) hS hr
  unfold impP fimp1
  generalize hq : (Fo d r).2 = q at *
  cases q with
  | nil =>
    have hm := mayF_end (orP un p).2 a1 3 (by rw [h2])
    simp only [show ([45, 62] : Bs) = sgn 3 from rfl, hm, Bool.false_eq_true, if_false]
    exact ⟨a1, h1, by rw [h2, hq]⟩
  | cons jy r' =>
    obtain ⟨j, y⟩ := jy
    have hj := hg (j, y) (by simp)
    by_cases h3 : j = 3
    · subst h3
      have hm := mayF_yes (orP un p).2 a1 y 3 r' (by rw [h2]; exact he) (by rw [h2])
      simp only [show ([45, 62] : Bs) = sgn 3 from rfl, hm, if_true]
      simp only [List.length_cons] at hlen
      have hp2 : ({ (orP un p).2 with toks := (vtok y, a1 + 1 + (sgn 3).length + 1) :: toksOf r' (a1 + 1 + (sgn 3).length + 1 + 2) } : PS) = { p with toks := (vtok y, a1 + 1 + (sgn 3).length + 1) :: toksOf r' (a1 + 1 + (sgn 3).length + 1 + 2) } := by rw [h2]
      have hw := within_flat imp { p with toks := (vtok y, a1 + 1 + (sgn 3).length + 1) :: toksOf r' (a1 + 1 + (sgn 3).length + 1 + 2) } (by show p.depth < 30; omega) he
      rw [hp2, hw]
      obtain ⟨a2, h4, h5⟩ := hi y r' { p with toks := (vtok y, a1 + 1 + (sgn 3).length + 1) :: toksOf r' (a1 + 1 + (sgn 3).length + 1 + 2), depth := p.depth + 1 } _ hj.2 (fun q hq => hg q (by simp [hq])) (by omega) he (by show p.depth + 1 + r'.length ≤ 30; omega) rfl
      refine ⟨a2, ?_, ?_⟩
      · simp only [strip, stripL, h1, h4]
      · rw [h5]; rfl
    · have hm := mayF_no (orP un p).2 a1 j y 3 r' hj.1 (by omega) h3 (by rw [h2])
      simp only [show ([45, 62] : Bs) = sgn 3 from rfl, hm, Bool.false_eq_true, if_false, if_neg h3]
      exact ⟨a1, h1, by rw [h2, hq]⟩
def fOr : FRd := fchain 2 (fchain 1 (fchain 0 fun_))
def fImp : Nat → FRd
  | 0 => fun d r => (.zero, r)
  | n + 1 => fimp1 fOr (fImp n)
theorem suf_or : Suf fOr := suf_chain (suf_chain (suf_chain suf_un))
theorem suf_fimp : ∀ n, Suf (fImp n)
  | 0 => fun d r => List.suffix_refl r
  | n + 1 => suf_imp suf_or (suf_fimp n)
theorem reads_or (m : Nat) (un iff_ : Rd) : Reads m (orP (unP un iff_)) fOr :=
  reads_chain (reads_chain (reads_chain (reads_un m un iff_) suf_un 0 (by omega)) (suf_chain suf_un) 1 (by omega)) (suf_chain (suf_chain suf_un)) 2 (by omega)
theorem reads_zero (rd : Rd) (m : Nat) (un : Rd) (Fi : FRd) (iff_ : Rd) : Reads 0 (impP (unP un iff_) rd) (fimp1 fOr Fi) := by
  intro d r p at_ hd hr hl he hdp ht
  obtain rfl : r = [] := List.eq_nil_of_length_eq_zero (by omega)
  obtain ⟨a1, h1, h2⟩ := reads_or 0 un iff_ d [] p at_ hd hr hl he hdp ht
  have hq : (fOr d []).2 = [] := List.eq_nil_of_length_eq_zero (by have := suf_len suf_or d []; simpa using this)
  rw [hq] at h2
  have hm := mayF_end (orP (unP un iff_) p).2 a1 3 (by rw [h2])
  unfold impP fimp1
  simp only [show ([45, 62] : Bs) = sgn 3 from rfl, hm, Bool.false_eq_true, if_false, hq]
  exact ⟨a1, h1, h2⟩
theorem reads_lev : ∀ n, Reads n (lev (n + 1)).imp (fImp (n + 1))
  | 0 => reads_zero _ 0 _ _ _
  | n + 1 => by
    have ih := reads_lev n
    show Reads (n + 1) (impP (unP (lev (n + 1)).un (lev (n + 1)).iff_) (lev (n + 1)).imp) (fimp1 fOr (fImp (n + 1)))
    exact reads_imp (reads_or (n + 1) _ _) ih suf_or
def fIff (n : Nat) : FRd := fchain 4 (fImp n)
theorem reads_iff (n : Nat) : Reads n (lev (n + 1)).iff_ (fIff (n + 1)) := reads_chain (reads_lev n) (suf_fimp _) 4 (by omega)
end Go.Proofs.Ytmjpecjciibngaa
