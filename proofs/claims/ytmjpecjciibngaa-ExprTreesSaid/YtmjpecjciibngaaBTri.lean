/- What is printed is read as the same formula, or is nested too deep: the readers. Plain facts. What is printed is read as the same formula, or is nested too deep. Plain facts. What is printed is read as the same formula, or is nested too deep, or is too long: ite; the lexer; the whole. Plain facts. What is printed is read as the same formula, or is nested too deep, or is too long: the lexer on a print; the whole. Plain facts. -/
import Derived.Test.YtmjpecjciibngaaBFla
import Derived.Test.YtmjpecjciibngaaBPuta
import Derived.Test.YtmjpecjciibngaaBPutb
namespace Go.Proofs.Ytmjpecjciibngaa
open Go.RowKit
set_option linter.unusedVariables false

def texts (p : PS) : List Bs := p.toks.map (·.1)
theorem hd_texts (p : PS) : p.hd.1 = (texts p).headD [] := by unfold PS.hd texts; cases p.toks <;> rfl
theorem goes_texts (p : PS) : texts p.goes = (texts p).tail := by unfold texts PS.goes; cases p.toks <;> rfl
theorem may_t {p : PS} {c : Bs} {r : List Bs} (he : p.e = 0) (h : texts p = c :: r) : p.may c = (true, p.goes) := by
  unfold PS.may
  rw [if_pos ⟨he, by rw [hd_texts, h]; rfl⟩]
theorem may_n {p : PS} {c : Bs} (h : (texts p).headD [] ≠ c) : p.may c = (false, p) := by
  unfold PS.may
  rw [if_neg fun hh => h (by rw [← hd_texts]; exact hh.2)]
theorem may_e {p : PS} {c : Bs} (h : p.e ≠ 0) : p.may c = (false, p) := by
  unfold PS.may
  rw [if_neg fun hh => h hh.1]
theorem bad_e {p : PS} (h : p.e ≠ 0) (k : Nat) : p.bad k = p := by unfold PS.bad; rw [if_neg h]
/-- Read as t, r is left; or too deep. -/
def Res (R : Tree × PS) (t : Tree) (r : List Bs) (d : Nat) : Prop := R.2.depth = d ∧ (R.2.e = 231 ∨ (R.2.e = 0 ∧ texts R.2 = r ∧ strip R.1 = strip t))
theorem Res.congr {R : Tree × PS} {t u : Tree} {r : List Bs} {d : Nat} (h : Res R t r d) (e : strip t = strip u) : Res R u r d := by rw [Res, ← e]; exact h
def Left (p : PS) (r : List Bs) (d : Nat) : Prop := p.depth = d ∧ (p.e = 231 ∨ (p.e = 0 ∧ texts p = r))
theorem must_left {p : PS} {c : Bs} {r : List Bs} {d : Nat} (h : Left p (c :: r) d) : Left (p.must c) r d := by
  obtain ⟨hd, h⟩ := h
  rcases h with h | ⟨h, ht⟩
  · have he : p.e ≠ 0 := by omega
    have : p.must c = p := by unfold PS.must; simp only [may_e he, Bool.false_eq_true, if_false]; exact bad_e he 230
    rw [this]
    exact ⟨hd, .inl h⟩
  · have : p.must c = p.goes := by unfold PS.must; simp only [may_t h ht, if_true]
    rw [this]
    exact ⟨hd, .inr ⟨h, by rw [goes_texts, ht]; rfl⟩⟩
theorem within_e (read : Rd) (p : PS) (h : p.e ≠ 0) : (within read p).2.e = p.e ∧ (within read p).2.depth = p.depth := by
  unfold within
  have hb : ({ p with depth := p.depth + 1 } : PS).bad 231 = { p with depth := p.depth + 1 } := bad_e (p := { p with depth := p.depth + 1 }) h 231
  simp only [hb, ite_self]
  rw [if_pos h]
  exact ⟨rfl, by simp⟩
theorem within_res {read : Rd} {p : PS} {t : Tree} {r : List Bs} {d : Nat} (hd : p.depth = d) (he : p.e = 0) (h : ∀ q : PS, q.e = 0 → q.depth = d + 1 → d + 1 ≤ 30 → texts q = texts p → Res (read q) t r (d + 1)) : Res (within read p) t r d := by
  unfold within
  by_cases h30 : 30 < p.depth + 1
  · have hb : ({ p with depth := p.depth + 1 } : PS).bad 231 = { p with depth := p.depth + 1, e := 231, eat := ({ p with depth := p.depth + 1 } : PS).at_ } := by
      unfold PS.bad; rw [if_pos he]
    simp only [if_pos h30, hb]
    rw [if_pos (by simp)]
    exact ⟨by simp [hd], .inl rfl⟩
  · simp only [if_neg h30]
    rw [if_neg (by simpa using he)]
    obtain ⟨h1, h2⟩ := h { p with depth := p.depth + 1 } he (by simp [hd]) (by omega) rfl
    refine ⟨by simp only; omega, ?_⟩
    rcases h2 with h2 | ⟨h2, h3, h4⟩
    · exact .inl h2
    · exact .inr ⟨h2, h3, h4⟩
theorem within_left {read : Rd} {p : PS} {t : Tree} {r x : List Bs} {d : Nat} (hp : Left p x d) (h : ∀ q : PS, q.e = 0 → q.depth = d + 1 → d + 1 ≤ 30 → texts q = x → Res (read q) t r (d + 1)) : Res (within read p) t r d := by
  obtain ⟨hd, hp⟩ := hp
  rcases hp with hp | ⟨hp, hx⟩
  · have := within_e read p (by omega)
    exact ⟨this.2.trans hd, .inl (this.1.trans hp)⟩
  · exact within_res hd hp fun q h1 h2 h3 h4 => h q h1 h2 h3 (h4.trans hx)
theorem Res.left {R : Tree × PS} {t : Tree} {r : List Bs} {d : Nat} (h : Res R t r d) : Left R.2 r d := ⟨h.1, h.2.elim .inl fun h => .inr ⟨h.1, h.2.1⟩⟩
theorem chainGo_stop (text : Bs) (kind : Int) (read : Rd) : ∀ (n : Nat) (e : Tree) (q : PS), (q.e ≠ 0 ∨ (texts q).headD [] ≠ text) → chainGo text kind read n e q = (e, q)
  | 0, e, q, _ => rfl
  | n + 1, e, q, h => by
    have : q.may text = (false, q) := h.elim may_e may_n
    simp only [chainGo, this, Bool.false_eq_true, if_false]
theorem chain_res0 {read : Rd} {p : PS} {t : Tree} {r : List Bs} {d : Nat} (text : Bs) (kind : Int) (h : Res (read p) t r d) (hne : r.headD [] ≠ text) : Res (chain text kind read p) t r d := by
  have : chain text kind read p = ((read p).1, (read p).2) := by
    unfold chain
    refine chainGo_stop text kind read _ _ _ ?_
    rcases h.2 with h | ⟨_, h, _⟩
    · exact .inl (by omega)
    · exact .inr (by rw [h]; exact hne)
  rw [this]
  exact h
theorem chain_res1 {read : Rd} {p : PS} {a b : Tree} {r r1 : List Bs} {d : Nat} (text : Bs) (kind : Int) (h : Res (read p) a (text :: r1) d) (h2 : ∀ q : PS, q.e = 0 → q.depth = d → texts q = r1 → Res (read q) b r d) (hne : r.headD [] ≠ text) :
    Res (chain text kind read p) (.node kind 0 0 [a, b]) r d := by
  obtain ⟨hd, h⟩ := h
  rcases h with h | ⟨h, ht, hs⟩
  · have : chain text kind read p = ((read p).1, (read p).2) := chainGo_stop text kind read _ _ _ (.inl (by omega))
    rw [this]
    exact ⟨hd, .inl h⟩
  · obtain ⟨n, hn⟩ : ∃ n, (read p).2.toks.length = n + 1 := by
      have : (texts (read p).2).length = r1.length + 1 := by rw [ht]; rfl
      exact ⟨r1.length, by simpa [texts] using this⟩
    have hm := may_t h ht
    have h3 := h2 (read p).2.goes h hd (by rw [goes_texts, ht]; rfl)
    have hgo : chain text kind read p = (.node kind (read p).2.at_ 0 [(read p).1, (read (read p).2.goes).1], (read (read p).2.goes).2) := by
      unfold chain
      simp only [hn, chainGo, hm, if_true]
      refine chainGo_stop text kind read _ _ _ ?_
      rcases h3.2 with h | ⟨_, h, _⟩
      · exact .inl (by omega)
      · exact .inr (by rw [h]; exact hne)
    rw [hgo]
    refine ⟨h3.1, ?_⟩
    rcases h3.2 with h4 | ⟨h4, h5, h6⟩
    · exact .inl h4
    · exact .inr ⟨h4, h5, by simp only [strip, stripL, hs, h6]⟩

abbrev opsL : List Bs := [[38], [94], [124], [45, 62], [60, 45, 62]]
theorem lev_un (m : Nat) : (lev (m + 1)).un = unP (lev m).un (lev m).iff_ := rfl
theorem lev_imp (m : Nat) : (lev (m + 1)).imp = impP (lev (m + 1)).un (lev m).imp := rfl
theorem lev_iff (m : Nat) : (lev (m + 1)).iff_ = chain [60, 45, 62] 8 (lev (m + 1)).imp := rfl
theorem head_ne {r : List Bs} (hr : r.headD [] ∉ opsL) : r.headD [] ≠ [38] ∧ r.headD [] ≠ [94] ∧ r.headD [] ≠ [124] ∧ r.headD [] ≠ [45, 62] ∧ r.headD [] ≠ [60, 45, 62] := by
  simpa [opsL] using hr
theorem or_res0 {un : Rd} {p : PS} {t : Tree} {r : List Bs} {d : Nat} (h : Res (un p) t r d) (h1 : r.headD [] ≠ [38]) (h2 : r.headD [] ≠ [94]) (h3 : r.headD [] ≠ [124]) : Res (orP un p) t r d :=
  chain_res0 [124] 5 (chain_res0 [94] 6 (chain_res0 [38] 4 h h1) h2) h3
theorem imp_res0 {un imp : Rd} {p : PS} {t : Tree} {r : List Bs} {d : Nat} (h : Res (orP un p) t r d) (h1 : r.headD [] ≠ [45, 62]) : Res (impP un imp p) t r d := by
  have : impP un imp p = ((orP un p).1, (orP un p).2) := by
    have hm : (orP un p).2.may [45, 62] = (false, (orP un p).2) := by
      rcases h.2 with h | ⟨_, h, _⟩
      · exact may_e (by omega)
      · exact may_n (by rw [h]; exact h1)
    unfold impP
    simp only [hm, Bool.false_eq_true, if_false]
  rw [this]
  exact h
theorem imp_res1 {un imp : Rd} {p : PS} {a b : Tree} {r r1 : List Bs} {d : Nat} (hO : Res (orP un p) a ([45, 62] :: r1) d) (hb : ∀ q : PS, q.e = 0 → q.depth = d + 1 → d + 1 ≤ 30 → texts q = r1 → Res (imp q) b r (d + 1)) :
    Res (impP un imp p) (.node 7 0 0 [a, b]) r d := by
  rcases hO.2 with h | ⟨h, ht, hs⟩
  · have : impP un imp p = ((orP un p).1, (orP un p).2) := by
      have hm : (orP un p).2.may [45, 62] = (false, (orP un p).2) := may_e (by omega)
      unfold impP
      simp only [hm, Bool.false_eq_true, if_false]
    rw [this]
    exact ⟨hO.1, .inl h⟩
  · have hm := may_t h ht
    have hw := within_res (read := imp) (p := (orP un p).2.goes) (t := b) (r := r) hO.1 h fun q e1 e2 e3 e4 => hb q e1 e2 e3 (by rw [e4, goes_texts, ht]; rfl)
    have : impP un imp p = (.node 7 (orP un p).2.at_ 0 [(orP un p).1, (within imp (orP un p).2.goes).1], (within imp (orP un p).2.goes).2) := by
      unfold impP
      simp only [hm, if_true]
    rw [this]
    refine ⟨hw.1, ?_⟩
    rcases hw.2 with h4 | ⟨h4, h5, h6⟩
    · exact .inl h4
    · exact .inr ⟨h4, h5, by simp only [strip, stripL, hs, h6]⟩
theorem iff_res0 {m : Nat} {p : PS} {t : Tree} {r : List Bs} {d : Nat} (h : Res ((lev (m + 1)).un p) t r d) (hr : r.headD [] ∉ opsL) : Res ((lev (m + 1)).iff_ p) t r d := by
  obtain ⟨h1, h2, h3, h4, h5⟩ := head_ne hr
  rw [lev_iff]
  refine chain_res0 _ _ ?_ h5
  rw [lev_imp]
  exact imp_res0 (or_res0 h h1 h2 h3) h4
theorem imp_resU {m : Nat} {p : PS} {t : Tree} {r : List Bs} {d : Nat} (h : Res ((lev (m + 1)).un p) t r d) (hr : r.headD [] ∉ opsL) : Res ((lev (m + 1)).imp p) t r d := by
  obtain ⟨h1, h2, h3, h4, h5⟩ := head_ne hr
  rw [lev_imp]
  exact imp_res0 (or_res0 h h1 h2 h3) h4
/-- Two parts with a sign between, which is k's. -/
theorem iff_res1 {m : Nat} {p : PS} {a b : Tree} {r r1 : List Bs} {d : Nat} (k : Int) (hk : 4 ≤ k ∧ k ≤ 8) (ha : Res ((lev (m + 1)).un p) a (sgL k :: r1) d)
    (hb : ∀ q : PS, q.e = 0 → q.depth = d → texts q = r1 → Res ((lev (m + 1)).un q) b r d) (hb2 : ∀ q : PS, q.e = 0 → q.depth = d + 1 → d + 1 ≤ 30 → texts q = r1 → Res ((lev m).imp q) b r (d + 1)) (hr : r.headD [] ∉ opsL) :
    Res ((lev (m + 1)).iff_ p) (.node k 0 0 [a, b]) r d := by
  obtain ⟨h1, h2, h3, h4, h5⟩ := head_ne hr
  have hk5 : k = 4 ∨ k = 5 ∨ k = 6 ∨ k = 7 ∨ k = 8 := by omega
  rw [lev_iff]
  rcases hk5 with rfl | rfl | rfl | rfl | rfl
  · refine chain_res0 _ _ ?_ h5
    rw [lev_imp]
    exact imp_res0 (chain_res0 _ _ (chain_res0 _ _ (chain_res1 [38] 4 ha hb h1) h2) h3) h4
  · refine chain_res0 _ _ ?_ h5
    rw [lev_imp]
    exact imp_res0 (chain_res1 [124] 5 (chain_res0 _ _ (chain_res0 _ _ ha (by simp)) (by simp)) (fun q e1 e2 e3 => chain_res0 _ _ (chain_res0 _ _ (hb q e1 e2 e3) h1) h2) h3) h4
  · refine chain_res0 _ _ ?_ h5
    rw [lev_imp]
    exact imp_res0 (chain_res0 _ _ (chain_res1 [94] 6 (chain_res0 _ _ ha (by simp)) (fun q e1 e2 e3 => chain_res0 _ _ (hb q e1 e2 e3) h1) h2) h3) h4
  · refine chain_res0 _ _ ?_ h5
    rw [lev_imp]
    exact imp_res1 (or_res0 ha (by simp) (by simp) (by simp)) hb2
  · refine chain_res1 (r1 := r1) [60, 45, 62] 8 ?_ (fun q e1 e2 e3 => ?_) h5
    · rw [lev_imp]
      exact imp_res0 (or_res0 ha (by simp) (by simp) (by simp)) (by simp)
    · rw [lev_imp]
      exact imp_res0 (or_res0 (hb q e1 e2 e3) h1 h2 h3) h4
end Go.Proofs.Ytmjpecjciibngaa
namespace Go.Proofs.Ytmjpecjciibngaa
open Go.RowKit
set_option linter.unusedVariables false

/-- The signs of a formula's print. -/
def pT (l : List Bs) : List Bs := [40] :: (l ++ [[41]])
def nthS (l : List (List Bs)) (i : Nat) : List Bs := l.getD i []
def nodeS (k : Int) (v : Nat) (l : List (List Bs)) : List Bs :=
  if k = 1 then [vtok v] else if k = 2 then [[dg v]] else if k = 3 then [33] :: pT (nthS l 0)
  else if k = 10 then [97, 108, 108] :: vtok v :: pT (nthS l 0)
  else if k = 11 then [97, 110, 121] :: vtok v :: pT (nthS l 0)
  else if k = 9 then [105, 116, 101] :: [40] :: (pT (nthS l 0) ++ ([44] :: (pT (nthS l 1) ++ ([44] :: (pT (nthS l 2) ++ [[41]])))))
  else [40] :: (pT (nthS l 0) ++ (sgL k :: (pT (nthS l 1) ++ [[41]])))
mutual
def toksT : Tree → List Bs | .node k _ v ks => nodeS k v.toNat (toksL ks)
def toksL : List Tree → List (List Bs) | [] => [] | t :: ts => toksT t :: toksL ts
end

/-- un reads the formula's print, at every depth. -/
def UnOK (t : Tree) : Prop := ∀ (m d : Nat) (p : PS) (r : List Bs), m + d = 30 → p.e = 0 → p.depth = d → texts p = toksT t ++ r → Res ((lev (m + 1)).un p) t r d
def ParOK (t : Tree) : Prop := ∀ (m d : Nat) (p : PS) (r : List Bs), m + d = 30 → p.e = 0 → p.depth = d → texts p = pT (toksT t) ++ r → Res ((lev (m + 1)).un p) t r d
theorem isVar_ne {c : Bs} (h : isVar c = false) : True := trivial
theorem un_paren {un iff_ : Rd} {p : PS} {x : List Bs} (he : p.e = 0) (h : texts p = [40] :: x) : unP un iff_ p = ((within iff_ p.goes).1, (within iff_ p.goes).2.must [41]) := by
  have hh : p.hd.1 = [40] := by rw [hd_texts, h]; rfl
  have h1 : p.may [33] = (false, p) := may_n (by rw [h]; simp)
  have h2 : p.may [97, 108, 108] = (false, p) := may_n (by rw [h]; simp)
  have h3 : p.may [97, 110, 121] = (false, p) := may_n (by rw [h]; simp)
  have h4 : p.may [40] = (true, p.goes) := may_t he h
  have h5 : isVar [40] = false := rfl
  unfold unP
  simp only [he, ne_eq, not_true_eq_false, if_false, h1, h2, h3, Bool.false_eq_true]
  unfold primP
  simp only [hh, h5, Bool.false_eq_true, if_false, h4, if_true]
  rw [if_neg (by decide)]
theorem must_res {R : Tree × PS} {t : Tree} {c : Bs} {r : List Bs} {d : Nat} (h : Res R t (c :: r) d) : Res (R.1, R.2.must c) t r d := by
  have h1 := must_left h.left
  refine ⟨h1.1, ?_⟩
  rcases h.2 with h2 | ⟨h2, h3, h4⟩
  · have : R.2.must c = R.2 := by unfold PS.must; simp only [may_e (show R.2.e ≠ 0 by omega), Bool.false_eq_true, if_false]; exact bad_e (by omega) 230
    exact .inl (by show (R.2.must c).e = 231; rw [this]; exact h2)
  · have hm : R.2.must c = R.2.goes := by unfold PS.must; simp only [may_t h2 h3, if_true]
    refine .inr ⟨?_, ?_, h4⟩
    · show (R.2.must c).e = 0; rw [hm]; exact h2
    · show texts (R.2.must c) = r; rw [hm, goes_texts, h3]; rfl
theorem par_of_un {t : Tree} (h : UnOK t) : ParOK t := by
  intro m d p r hmd he hd ht
  rw [lev_un, un_paren (x := toksT t ++ [41] :: r) he (by rw [ht]; simp [pT])]
  refine must_res (R := (within (lev m).iff_ p.goes)) (within_res (r := [41] :: r) hd he fun q e1 e2 e3 e4 => ?_)
  obtain ⟨n, rfl⟩ : ∃ n, m = n + 1 := ⟨m - 1, by omega⟩
  refine iff_res0 (h n (d + 1) q ([41] :: r) (by omega) e1 e2 ?_) (by simp [opsL])
  rw [e4, goes_texts, ht]; simp [pT]
theorem un_leaf (a : Int) (u : Nat) (hu : u < 8) : UnOK (.node 1 a u []) := by
  intro m d p r hmd he hd ht
  have ht' : texts p = vtok u :: r := by rw [ht]; simp [toksT, nodeS]
  rw [lev_un]
  have hh : p.hd.1 = vtok u := by rw [hd_texts, ht']; rfl
  have hv : isVar (vtok u) = true ∧ digitOf (vtok u) 1 = u ∧ vtok u ≠ [33] ∧ vtok u ≠ [97, 108, 108] ∧ vtok u ≠ [97, 110, 121] := by
    have h8 : u = 0 ∨ u = 1 ∨ u = 2 ∨ u = 3 ∨ u = 4 ∨ u = 5 ∨ u = 6 ∨ u = 7 := by omega
    rcases h8 with rfl | rfl | rfl | rfl | rfl | rfl | rfl | rfl <;> decide
  obtain ⟨h1, h2, h3, h4, h5⟩ := hv
  have : unP (lev m).un (lev m).iff_ p = (.node 1 p.hd.2 u [], p.goes) := by
    generalize (lev m).un = un_; generalize (lev m).iff_ = iff_
    unfold unP
    simp only [he, ne_eq, not_true_eq_false, if_false, may_n (show (texts p).headD [] ≠ [33] by rw [ht']; exact h3), may_n (show (texts p).headD [] ≠ [97, 108, 108] by rw [ht']; exact h4), may_n (show (texts p).headD [] ≠ [97, 110, 121] by rw [ht']; exact h5), Bool.false_eq_true]
    unfold primP
    simp only [hh, h1, h2, if_true]
  rw [this]
  exact ⟨hd, .inr ⟨he, by rw [goes_texts, ht']; rfl, by simp [strip, stripL]⟩⟩
theorem un_const (a : Int) (u : Nat) (hu : u < 2) : UnOK (.node 2 a u []) := by
  intro m d p r hmd he hd ht
  have ht' : texts p = [dg u] :: r := by rw [ht]; simp [toksT, nodeS]
  rw [lev_un]
  have hh : p.hd.1 = [dg u] := by rw [hd_texts, ht']; rfl
  have hv : isVar [dg u] = false ∧ digitOf [dg u] 0 = u ∧ ([dg u] = [48] ∨ [dg u] = [49]) ∧ [dg u] ≠ [33] ∧ [dg u] ≠ [97, 108, 108] ∧ [dg u] ≠ [97, 110, 121] := by
    have h8 : u = 0 ∨ u = 1 := by omega
    rcases h8 with rfl | rfl <;> decide
  obtain ⟨h1, h2, h0, h3, h4, h5⟩ := hv
  have : unP (lev m).un (lev m).iff_ p = (.node 2 p.hd.2 u [], p.goes) := by
    generalize (lev m).un = un_; generalize (lev m).iff_ = iff_
    unfold unP
    simp only [he, ne_eq, not_true_eq_false, if_false, may_n (show (texts p).headD [] ≠ [33] by rw [ht']; exact h3), may_n (show (texts p).headD [] ≠ [97, 108, 108] by rw [ht']; exact h4), may_n (show (texts p).headD [] ≠ [97, 110, 121] by rw [ht']; exact h5), Bool.false_eq_true]
    unfold primP
    simp only [hh, h1, h2, Bool.false_eq_true, if_false]
    rw [if_pos h0]
  rw [this]
  exact ⟨hd, .inr ⟨he, by rw [goes_texts, ht']; rfl, by simp [strip, stripL]⟩⟩
theorem un_not (a : Int) (t1 : Tree) (h : ParOK t1) : UnOK (.node 3 a 0 [t1]) := by
  intro m d p r hmd he hd ht
  have ht' : texts p = [33] :: (pT (toksT t1) ++ r) := by rw [ht]; simp [toksT, toksL, nodeS, nthS]
  rw [lev_un]
  have hw : Res (within (lev m).un p.goes) t1 r d := within_res hd he fun q e1 e2 e3 e4 => by
    obtain ⟨n, rfl⟩ : ∃ n, m = n + 1 := ⟨m - 1, by omega⟩
    exact h n (d + 1) q r (by omega) e1 e2 (by rw [e4, goes_texts, ht']; rfl)
  have : unP (lev m).un (lev m).iff_ p = (.node 3 p.at_ 0 [(within (lev m).un p.goes).1], (within (lev m).un p.goes).2) := by
    generalize (lev m).un = un_; generalize (lev m).iff_ = iff_
    unfold unP
    simp only [he, ne_eq, not_true_eq_false, if_false, may_t he ht', if_true]
  rw [this]
  generalize within (lev m).un p.goes = R at *
  refine ⟨hw.1, ?_⟩
  rcases hw.2 with h4 | ⟨h4, h5, h6⟩
  · exact .inl h4
  · exact .inr ⟨h4, h5, by simp only [strip, stripL, h6]⟩
theorem un_quant (k a : Int) (w : Bs) (hk : (k = 10 ∧ w = [97, 108, 108]) ∨ (k = 11 ∧ w = [97, 110, 121])) (u : Nat) (hu : u < 8) (t1 : Tree) (h : ParOK t1) : UnOK (.node k a u [t1]) := by
  intro m d p r hmd he hd ht
  have ht' : texts p = w :: vtok u :: (pT (toksT t1) ++ r) := by
    rw [ht]
    rcases hk with ⟨rfl, rfl⟩ | ⟨rfl, rfl⟩ <;> simp [toksT, toksL, nodeS, nthS]
  rw [lev_un]
  have hg : texts p.goes = vtok u :: (pT (toksT t1) ++ r) := by rw [goes_texts, ht']; rfl
  have hw : Res (within (lev m).un p.goes.goes) t1 r d := within_res hd he fun q e1 e2 e3 e4 => by
    obtain ⟨n, rfl⟩ : ∃ n, m = n + 1 := ⟨m - 1, by omega⟩
    exact h n (d + 1) q r (by omega) e1 e2 (by rw [e4, goes_texts, hg]; rfl)
  have hv : isVar (vtok u) = true ∧ digitOf (vtok u) 1 = u := by
    have h8 : u = 0 ∨ u = 1 ∨ u = 2 ∨ u = 3 ∨ u = 4 ∨ u = 5 ∨ u = 6 ∨ u = 7 := by omega
    rcases h8 with rfl | rfl | rfl | rfl | rfl | rfl | rfl | rfl <;> decide
  have hh : p.goes.hd.1 = vtok u := by rw [hd_texts, hg]; rfl
  have : unP (lev m).un (lev m).iff_ p = (.node k p.at_ u [(within (lev m).un p.goes.goes).1], (within (lev m).un p.goes.goes).2) := by
    generalize (lev m).un = un_; generalize (lev m).iff_ = iff_
    unfold unP
    rcases hk with ⟨rfl, rfl⟩ | ⟨rfl, rfl⟩
    · simp only [he, ne_eq, not_true_eq_false, if_false, may_n (show (texts p).headD [] ≠ [33] by rw [ht']; simp), may_t he ht', if_true, Bool.false_eq_true]
      unfold boundP
      simp only [hh, hv.1, hv.2, if_true]
    · simp only [he, ne_eq, not_true_eq_false, if_false, may_n (show (texts p).headD [] ≠ [33] by rw [ht']; simp), may_n (show (texts p).headD [] ≠ [97, 108, 108] by rw [ht']; simp), may_t he ht', if_true, Bool.false_eq_true]
      unfold boundP
      simp only [hh, hv.1, hv.2, if_true]
  rw [this]
  generalize within (lev m).un p.goes.goes = R at *
  refine ⟨hw.1, ?_⟩
  rcases hw.2 with h4 | ⟨h4, h5, h6⟩
  · exact .inl h4
  · exact .inr ⟨h4, h5, by simp only [strip, stripL, h6]⟩
theorem un_bin (k a : Int) (hk : 4 ≤ k ∧ k ≤ 8) (t1 t2 : Tree) (h1 : ParOK t1) (h2 : ParOK t2) : UnOK (.node k a 0 [t1, t2]) := by
  intro m d p r hmd he hd ht
  have hn : toksT (.node k a 0 [t1, t2]) = [40] :: (pT (toksT t1) ++ (sgL k :: (pT (toksT t2) ++ [[41]]))) := by
    simp only [toksT, toksL, nodeS]
    rw [if_neg (by omega), if_neg (by omega), if_neg (by omega), if_neg (by omega), if_neg (by omega), if_neg (by omega)]
    rfl
  rw [lev_un, un_paren (x := pT (toksT t1) ++ (sgL k :: (pT (toksT t2) ++ [41] :: r))) he (by rw [ht, hn]; simp)]
  refine must_res (R := (within (lev m).iff_ p.goes)) (within_res (r := [41] :: r) hd he fun q e1 e2 e3 e4 => ?_)
  obtain ⟨n, rfl⟩ : ∃ n, m = n + 1 := ⟨m - 1, by omega⟩
  refine Res.congr (iff_res1 (a := t1) (b := t2) (r1 := pT (toksT t2) ++ [41] :: r) k hk (h1 n (d + 1) q _ (by omega) e1 e2 ?_) (fun q' f1 f2 f3 => h2 n (d + 1) q' _ (by omega) f1 f2 f3) (fun q' f1 f2 f3 f4 => ?_) (by simp [opsL])) (by simp only [strip, stripL])
  · rw [e4, goes_texts, ht, hn]; simp
  · obtain ⟨n', rfl⟩ : ∃ n', n = n' + 1 := ⟨n - 1, by omega⟩
    exact imp_resU (h2 n' (d + 1 + 1) q' _ (by omega) f1 f2 f4) (by simp [opsL])
end Go.Proofs.Ytmjpecjciibngaa
namespace Go.Proofs.Ytmjpecjciibngaa
open Go.RowKit
set_option linter.unusedVariables false

def ResL (R : List Tree × PS) (ts : List Tree) (r : List Bs) (d : Nat) : Prop := R.2.depth = d ∧ (R.2.e = 231 ∨ (R.2.e = 0 ∧ texts R.2 = r ∧ stripL R.1 = stripL ts))
theorem stripL_app : ∀ a b : List Tree, stripL (a ++ b) = stripL a ++ stripL b
  | [], b => by simp [stripL]
  | t :: a, b => by simp only [List.cons_append, stripL, stripL_app a b]
theorem step_res {m d : Nat} {c : Bs} {l ts : List Tree} {t : Tree} {p : PS} {r x : List Bs} (hmd : m + d = 30) (h : ParOK t) (hx : x = pT (toksT t) ++ r) (hr : r.headD [] ∉ opsL) (hp : ResL (l, p) ts (c :: x) d) : ResL (iteStep (lev m).iff_ c l p) (ts ++ [t]) r d := by
  have hl : Left p (c :: x) d := ⟨hp.1, hp.2.elim .inl fun h => .inr ⟨h.1, h.2.1⟩⟩
  have hw : Res (within (lev m).iff_ (p.must c)) t r d := within_left (must_left hl) fun q e1 e2 e3 e4 => by
    obtain ⟨n, rfl⟩ : ∃ n, m = n + 1 := ⟨m - 1, by omega⟩
    exact iff_res0 (h n (d + 1) q r (by omega) e1 e2 (by rw [e4, hx])) hr
  have hsticky : p.e = 231 → (within (lev m).iff_ (p.must c)).2.e = 231 := fun he => by
    have hm : p.must c = p := by unfold PS.must; simp only [may_e (show p.e ≠ 0 by omega), Bool.false_eq_true, if_false]; exact bad_e (by omega) 230
    rw [hm, (within_e _ _ (by omega)).1, he]
  unfold iteStep
  simp only
  generalize within (lev m).iff_ (p.must c) = R at *
  refine ⟨hw.1, ?_⟩
  rcases hp.2 with h0 | ⟨h0, _, hs⟩
  · exact .inl (hsticky h0)
  · rcases hw.2 with h4 | ⟨h4, h5, h6⟩
    · exact .inl h4
    · exact .inr ⟨h4, h5, by simp only [stripL_app] at hs ⊢; rw [hs]; simp only [stripL, h6]⟩
theorem un_ite (a : Int) (t1 t2 t3 : Tree) (h1 : ParOK t1) (h2 : ParOK t2) (h3 : ParOK t3) : UnOK (.node 9 a 0 [t1, t2, t3]) := by
  intro m d p r hmd he hd ht
  have hn : toksT (.node 9 a 0 [t1, t2, t3]) = [105, 116, 101] :: [40] :: (pT (toksT t1) ++ ([44] :: (pT (toksT t2) ++ ([44] :: (pT (toksT t3) ++ [[41]]))))) := by
    simp only [toksT, toksL, nodeS]; rfl
  have ht' : texts p = [105, 116, 101] :: [40] :: (pT (toksT t1) ++ ([44] :: (pT (toksT t2) ++ ([44] :: (pT (toksT t3) ++ [41] :: r))))) := by rw [ht, hn]; simp
  rw [lev_un]
  have hh : p.hd.1 = [105, 116, 101] := by rw [hd_texts, ht']; rfl
  have hv : isVar [105, 116, 101] = false := rfl
  have hit : unP (lev m).un (lev m).iff_ p = iteP (lev m).iff_ p.hd.2 p.goes := by
    generalize (lev m).un = un_; generalize (lev m).iff_ = iff_
    unfold unP
    simp only [he, ne_eq, not_true_eq_false, if_false, may_n (show (texts p).headD [] ≠ [33] by rw [ht']; simp), may_n (show (texts p).headD [] ≠ [97, 108, 108] by rw [ht']; simp), may_n (show (texts p).headD [] ≠ [97, 110, 121] by rw [ht']; simp), Bool.false_eq_true]
    unfold primP
    simp only [hh, hv, may_n (show (texts p).headD [] ≠ [40] by rw [ht']; simp), may_t he ht', Bool.false_eq_true, if_false, if_true]
    rw [if_neg (by decide)]
  rw [hit]
  have s0 : ResL (([] : List Tree), p.goes) [] ([40] :: (pT (toksT t1) ++ ([44] :: (pT (toksT t2) ++ ([44] :: (pT (toksT t3) ++ [41] :: r)))))) d := ⟨hd, .inr ⟨he, by rw [goes_texts, ht']; rfl, rfl⟩⟩
  have s1 := step_res hmd h1 rfl (by simp [opsL]) s0
  have s2 := step_res (l := (iteStep (lev m).iff_ [40] [] p.goes).1) (p := (iteStep (lev m).iff_ [40] [] p.goes).2) hmd h2 rfl (by simp [opsL]) s1
  have s3 := step_res (l := (iteStep (lev m).iff_ [44] (iteStep (lev m).iff_ [40] [] p.goes).1 (iteStep (lev m).iff_ [40] [] p.goes).2).1) (p := (iteStep (lev m).iff_ [44] (iteStep (lev m).iff_ [40] [] p.goes).1 (iteStep (lev m).iff_ [40] [] p.goes).2).2) hmd h3 rfl (by simp [opsL]) s2
  unfold iteP
  simp only
  generalize iteStep (lev m).iff_ [44] (iteStep (lev m).iff_ [44] (iteStep (lev m).iff_ [40] [] p.goes).1 (iteStep (lev m).iff_ [40] [] p.goes).2).1 (iteStep (lev m).iff_ [44] (iteStep (lev m).iff_ [40] [] p.goes).1 (iteStep (lev m).iff_ [40] [] p.goes).2).2 = R at *
  have hL : Left R.2 ([41] :: r) d := ⟨s3.1, s3.2.elim .inl fun h => .inr ⟨h.1, h.2.1⟩⟩
  have hM := must_left hL
  refine ⟨hM.1, ?_⟩
  rcases hM.2 with h4 | ⟨h4, h5⟩
  · exact .inl h4
  · refine .inr ⟨h4, h5, ?_⟩
    rcases s3.2 with h6 | ⟨_, _, h6⟩
    · exfalso
      have hm : R.2.must [41] = R.2 := by unfold PS.must; simp only [may_e (show R.2.e ≠ 0 by omega), Bool.false_eq_true, if_false]; exact bad_e (by omega) 230
      rw [hm] at h4; omega
    · simp only [strip, h6]; rfl
theorem un_node (k a v : Int) (ks : List Tree) (hp : plainB k v ks.length = true) (IH : ∀ t ∈ ks, UnOK t) : UnOK (.node k a v ks) := by
  unfold plainB at hp
  simp only [decide_eq_true_eq] at hp
  obtain ⟨h1, h11, hl, hv0, hv⟩ := hp
  have hk : k = 1 ∨ k = 2 ∨ k = 3 ∨ (4 ≤ k ∧ k ≤ 8) ∨ k = 9 ∨ k = 10 ∨ k = 11 := by omega
  rcases hk with rfl | rfl | rfl | hk | rfl | rfl | rfl
  · have hv7 : v ≤ 7 := hv
    obtain ⟨u, rfl⟩ : ∃ u : Nat, v = (u : Int) := ⟨v.toNat, by omega⟩
    obtain rfl := lenK0 hl
    exact un_leaf a u (by omega)
  · have hv7 : v ≤ 1 := hv
    obtain ⟨u, rfl⟩ : ∃ u : Nat, v = (u : Int) := ⟨v.toNat, by omega⟩
    obtain rfl := lenK0 hl
    exact un_const a u (by omega)
  · have hv7 : v ≤ 0 := hv
    obtain rfl : v = 0 := by omega
    obtain ⟨t1, rfl⟩ := lenK1 hl
    exact un_not a t1 (par_of_un (IH t1 (by simp)))
  · have hk5 : kidsOf k = 2 ∧ topOf k = 0 := by
      have : k = 4 ∨ k = 5 ∨ k = 6 ∨ k = 7 ∨ k = 8 := by omega
      rcases this with rfl | rfl | rfl | rfl | rfl <;> exact ⟨rfl, rfl⟩
    rw [hk5.1] at hl; rw [hk5.2] at hv
    obtain rfl : v = 0 := by omega
    obtain ⟨t1, t2, rfl⟩ := lenK2 hl
    exact un_bin k a hk t1 t2 (par_of_un (IH t1 (by simp))) (par_of_un (IH t2 (by simp)))
  · have hv7 : v ≤ 0 := hv
    obtain rfl : v = 0 := by omega
    obtain ⟨t1, t2, t3, rfl⟩ := lenK3 hl
    exact un_ite a t1 t2 t3 (par_of_un (IH t1 (by simp))) (par_of_un (IH t2 (by simp))) (par_of_un (IH t3 (by simp)))
  · have hv7 : v ≤ 7 := hv
    obtain ⟨u, rfl⟩ : ∃ u : Nat, v = (u : Int) := ⟨v.toNat, by omega⟩
    obtain ⟨t1, rfl⟩ := lenK1 hl
    exact un_quant 10 a _ (.inl ⟨rfl, rfl⟩) u (by omega) t1 (par_of_un (IH t1 (by simp)))
  · have hv7 : v ≤ 7 := hv
    obtain ⟨u, rfl⟩ : ∃ u : Nat, v = (u : Int) := ⟨v.toNat, by omega⟩
    obtain ⟨t1, rfl⟩ := lenK1 hl
    exact un_quant 11 a _ (.inr ⟨rfl, rfl⟩) u (by omega) t1 (par_of_un (IH t1 (by simp)))
mutual
theorem un_tree : ∀ t : Tree, allP t = true → UnOK t
  | .node k a v ks, h => by
    unfold allP at h
    rw [Bool.and_eq_true] at h
    exact un_node k a v ks h.1 (un_trees ks h.2)
theorem un_trees : ∀ l : List Tree, allPL l = true → ∀ t ∈ l, UnOK t
  | [], _, t, ht => absurd ht (by simp)
  | u :: us, h, t, ht => by
    unfold allPL at h
    rw [Bool.and_eq_true] at h
    rcases List.mem_cons.1 ht with e | ht
    · rw [e]; exact un_tree u h.1
    · exact un_trees us h.2 t ht
end

/-- The texts of a text's signs, from whatever place. -/
def LexT (l : Bs) (c : List Bs) (rest : Bs) : Prop := ∀ n at_, ∃ at', c.length ≤ n → (lexL n (l ++ rest) at_).map (·.1) = c ++ (lexL (n - c.length) rest at').map (·.1)
theorem LexT.nil (rest : Bs) : LexT [] [] rest := fun n at_ => ⟨at_, fun _ => rfl⟩
theorem LexT.app {a b rest : Bs} {ca cb : List Bs} (ha : LexT a ca (b ++ rest)) (hb : LexT b cb rest) : LexT (a ++ b) (ca ++ cb) rest := by
  intro n at_
  obtain ⟨at1, h1⟩ := ha n at_
  obtain ⟨at2, h2⟩ := hb (n - ca.length) at1
  refine ⟨at2, fun hn => ?_⟩
  rw [List.length_append] at hn
  rw [List.append_assoc, h1 (by omega), h2 (by omega), List.append_assoc, List.length_append, Nat.sub_sub]
theorem LexT.one {c rest : Bs} (h : ∀ n at_, ∃ at', lexL (n + 1) (c ++ rest) at_ = (c, at') :: lexL n rest (at' + c.length)) : LexT c [c] rest := by
  intro n at_
  cases n with
  | zero => exact ⟨0, fun h => absurd h (by simp)⟩
  | succ n =>
    obtain ⟨at', h⟩ := h n at_
    exact ⟨at' + c.length, fun _ => by rw [h]; simp⟩
/-- A sign behind a blank. -/
theorem LexT.blank {c rest : Bs} (h : ∀ n at_, ∃ at', lexL (n + 1) (32 :: (c ++ rest)) at_ = (c, at') :: lexL n rest (at' + c.length)) : LexT (32 :: c) [c] rest := by
  intro n at_
  cases n with
  | zero => exact ⟨0, fun h => absurd h (by simp)⟩
  | succ n =>
    obtain ⟨at', h⟩ := h n at_
    exact ⟨at' + c.length, fun _ => by rw [List.cons_append, h]; simp⟩
end Go.Proofs.Ytmjpecjciibngaa
namespace Go.Proofs.Ytmjpecjciibngaa
open Go.RowKit
set_option linter.unusedVariables false

theorem lx_open (rest : Bs) : LexT [40] [[40]] rest := LexT.one fun n at_ => ⟨at_, rfl⟩
theorem lx_close (rest : Bs) : LexT [41] [[41]] rest := LexT.one fun n at_ => ⟨at_, rfl⟩
theorem lx_comma (rest : Bs) : LexT [44] [[44]] rest := LexT.one fun n at_ => ⟨at_, rfl⟩
theorem lx_not (rest : Bs) : LexT [33] [[33]] rest := LexT.one fun n at_ => ⟨at_, rfl⟩
theorem lx_bopen (rest : Bs) : LexT [32, 40] [[40]] rest := LexT.blank (c := [40]) fun n at_ => ⟨at_ + 1, rfl⟩
theorem lx_bar (rest : Bs) (a : Bs) : LexT [32, 40] [[40]] rest := lx_bopen rest
theorem lx_all (rest : Bs) : LexT [97, 108, 108] [[97, 108, 108]] (32 :: rest) := LexT.one fun n at_ => ⟨at_, rfl⟩
theorem lx_any (rest : Bs) : LexT [97, 110, 121] [[97, 110, 121]] (32 :: rest) := LexT.one fun n at_ => ⟨at_, rfl⟩
theorem lx_ite (rest : Bs) : LexT [105, 116, 101] [[105, 116, 101]] (40 :: rest) := LexT.one fun n at_ => ⟨at_, rfl⟩
theorem lx_bvar (u : Nat) (hu : u < 8) (rest : Bs) : LexT (32 :: vtok u) [vtok u] (32 :: rest) := LexT.blank fun n at_ => ⟨at_ + 1, by
  have h8 : u = 0 ∨ u = 1 ∨ u = 2 ∨ u = 3 ∨ u = 4 ∨ u = 5 ∨ u = 6 ∨ u = 7 := by omega
  rcases h8 with rfl | rfl | rfl | rfl | rfl | rfl | rfl | rfl <;> rfl⟩
theorem lx_bsign (k : Int) (hk : 4 ≤ k ∧ k ≤ 8) (rest : Bs) : LexT (32 :: sgL k) [sgL k] (32 :: rest) := LexT.blank fun n at_ => ⟨at_ + 1, by
  have h8 : k = 4 ∨ k = 5 ∨ k = 6 ∨ k = 7 ∨ k = 8 := by omega
  rcases h8 with rfl | rfl | rfl | rfl | rfl <;> rfl⟩
abbrev EndOK (rest : Bs) : Prop := rest = [] ∨ ∃ u, rest = 41 :: u
theorem lx_var (u : Nat) (hu : u < 8) (rest : Bs) (hr : EndOK rest) : LexT (vtok u) [vtok u] rest := LexT.one fun n at_ => ⟨at_, by
  have h8 : u = 0 ∨ u = 1 ∨ u = 2 ∨ u = 3 ∨ u = 4 ∨ u = 5 ∨ u = 6 ∨ u = 7 := by omega
  rcases h8 with rfl | rfl | rfl | rfl | rfl | rfl | rfl | rfl <;> rcases hr with rfl | ⟨x, rfl⟩ <;> rfl⟩
theorem lx_const (u : Nat) (hu : u < 2) (rest : Bs) : LexT [dg u] [[dg u]] rest := LexT.one fun n at_ => ⟨at_, by
  have h8 : u = 0 ∨ u = 1 := by omega
  rcases h8 with rfl | rfl <;> rfl⟩
/-- The lexer reads the print's signs. -/
def LxOK (t : Tree) : Prop := ∀ rest, EndOK rest → LexT (printT t) (toksT t) rest
theorem lx_in {t : Tree} (h : LxOK t) (rest : Bs) : LexT (inB (printT t)) (pT (toksT t)) rest := by
  have := (lx_open (printT t ++ [41] ++ rest)).app ((h ([41] ++ rest) (.inr ⟨rest, rfl⟩)).app (lx_close rest) |> fun x => (by simpa [List.append_assoc] using x : LexT (printT t ++ [41]) (toksT t ++ [[41]]) rest))
  exact this
theorem lx_bin {t : Tree} (h : LxOK t) (rest : Bs) : LexT (32 :: inB (printT t)) (pT (toksT t)) rest := by
  have := (lx_bopen (printT t ++ [41] ++ rest)).app ((h ([41] ++ rest) (.inr ⟨rest, rfl⟩)).app (lx_close rest) |> fun x => (by simpa [List.append_assoc] using x : LexT (printT t ++ [41]) (toksT t ++ [[41]]) rest))
  exact this
theorem lx_node (k a v : Int) (ks : List Tree) (hp : plainB k v ks.length = true) (IH : ∀ t ∈ ks, LxOK t) : LxOK (.node k a v ks) := by
  unfold plainB at hp
  simp only [decide_eq_true_eq] at hp
  obtain ⟨h1, h11, hl, hv0, hv⟩ := hp
  have hk : k = 1 ∨ k = 2 ∨ k = 3 ∨ (4 ≤ k ∧ k ≤ 8) ∨ k = 9 ∨ k = 10 ∨ k = 11 := by omega
  intro rest hr
  rcases hk with rfl | rfl | rfl | hk | rfl | rfl | rfl
  · have hv7 : v ≤ 7 := hv
    obtain ⟨u, rfl⟩ : ∃ u : Nat, v = (u : Int) := ⟨v.toNat, by omega⟩
    exact lx_var u (by omega) rest hr
  · have hv7 : v ≤ 1 := hv
    obtain ⟨u, rfl⟩ : ∃ u : Nat, v = (u : Int) := ⟨v.toNat, by omega⟩
    exact lx_const u (by omega) rest
  · obtain ⟨t1, rfl⟩ := lenK1 hl
    exact (lx_not _).app (lx_in (IH t1 (by simp)) rest)
  · have hk5 : kidsOf k = 2 := by
      have : k = 4 ∨ k = 5 ∨ k = 6 ∨ k = 7 ∨ k = 8 := by omega
      rcases this with rfl | rfl | rfl | rfl | rfl <;> rfl
    rw [hk5] at hl
    obtain ⟨t1, t2, rfl⟩ := lenK2 hl
    have hB : printT (.node k a v [t1, t2]) = [40] ++ (inB (printT t1) ++ ((32 :: sgL k) ++ ((32 :: inB (printT t2)) ++ [41]))) := by
      simp only [printT, printL, nodeB]
      rw [if_neg (by omega), if_neg (by omega), if_neg (by omega), if_neg (by omega), if_neg (by omega), if_neg (by omega)]
      simp [nthB]
    have hT : toksT (.node k a v [t1, t2]) = [[40]] ++ (pT (toksT t1) ++ ([sgL k] ++ (pT (toksT t2) ++ [[41]]))) := by
      simp only [toksT, toksL, nodeS]
      rw [if_neg (by omega), if_neg (by omega), if_neg (by omega), if_neg (by omega), if_neg (by omega), if_neg (by omega)]
      simp [nthS]
    rw [hB, hT]
    exact (lx_open _).app ((lx_in (IH t1 (by simp)) _).app ((lx_bsign k hk _).app ((lx_bin (IH t2 (by simp)) _).app (lx_close rest))))
  · obtain ⟨t1, t2, t3, rfl⟩ := lenK3 hl
    have hB : printT (.node 9 a v [t1, t2, t3]) = [105, 116, 101] ++ ([40] ++ (inB (printT t1) ++ ([44] ++ ((32 :: inB (printT t2)) ++ ([44] ++ ((32 :: inB (printT t3)) ++ [41])))))) := by
      simp [printT, printL, nodeB, nthB]
    have hT : toksT (.node 9 a v [t1, t2, t3]) = [[105, 116, 101]] ++ ([[40]] ++ (pT (toksT t1) ++ ([[44]] ++ (pT (toksT t2) ++ ([[44]] ++ (pT (toksT t3) ++ [[41]])))))) := by
      simp [toksT, toksL, nodeS, nthS]
    rw [hB, hT]
    exact (lx_ite _).app ((lx_open _).app ((lx_in (IH t1 (by simp)) _).app ((lx_comma _).app ((lx_bin (IH t2 (by simp)) _).app ((lx_comma _).app ((lx_bin (IH t3 (by simp)) _).app (lx_close rest)))))))
  · have hv7 : v ≤ 7 := hv
    obtain ⟨u, rfl⟩ : ∃ u : Nat, v = (u : Int) := ⟨v.toNat, by omega⟩
    obtain ⟨t1, rfl⟩ := lenK1 hl
    have hB : printT (.node 10 a u [t1]) = [97, 108, 108] ++ ((32 :: vtok u) ++ (32 :: inB (printT t1))) := by simp [printT, printL, nodeB, nthB]
    have hT : toksT (.node 10 a u [t1]) = [[97, 108, 108]] ++ ([vtok u] ++ pT (toksT t1)) := by simp [toksT, toksL, nodeS, nthS]
    rw [hB, hT]
    exact (lx_all _).app ((lx_bvar u (by omega) _).app (lx_bin (IH t1 (by simp)) rest))
  · have hv7 : v ≤ 7 := hv
    obtain ⟨u, rfl⟩ : ∃ u : Nat, v = (u : Int) := ⟨v.toNat, by omega⟩
    obtain ⟨t1, rfl⟩ := lenK1 hl
    have hB : printT (.node 11 a u [t1]) = [97, 110, 121] ++ ((32 :: vtok u) ++ (32 :: inB (printT t1))) := by simp [printT, printL, nodeB, nthB]
    have hT : toksT (.node 11 a u [t1]) = [[97, 110, 121]] ++ ([vtok u] ++ pT (toksT t1)) := by simp [toksT, toksL, nodeS, nthS]
    rw [hB, hT]
    exact (lx_any _).app ((lx_bvar u (by omega) _).app (lx_bin (IH t1 (by simp)) rest))
mutual
theorem lx_tree : ∀ t : Tree, allP t = true → LxOK t
  | .node k a v ks, h => by
    unfold allP at h
    rw [Bool.and_eq_true] at h
    exact lx_node k a v ks h.1 (lx_trees ks h.2)
theorem lx_trees : ∀ l : List Tree, allPL l = true → ∀ t ∈ l, LxOK t
  | [], _, t, ht => absurd ht (by simp)
  | u :: us, h, t, ht => by
    unfold allPL at h
    rw [Bool.and_eq_true] at h
    rcases List.mem_cons.1 ht with e | ht
    · rw [e]; exact lx_tree u h.1
    · exact lx_trees us h.2 t ht
end
theorem nodeS_len (k : Int) (v : Nat) (l : List (List Bs)) (m : List Bs) (h : ∀ i, (nthS l i).length ≤ (nthB m i).length) : (nodeS k v l).length ≤ (nodeB k v m).length := by
  have h0 := h 0; have h1 := h 1; have h2 := h 2
  have hs : 1 ≤ (sgL k).length := by unfold sgL; (repeat' split) <;> simp
  unfold nodeS nodeB
  (repeat' split) <;> simp [pT, inB] <;> omega
mutual
theorem toksT_len : ∀ t : Tree, (toksT t).length ≤ (printT t).length
  | .node k a v ks => by
    unfold toksT printT
    exact nodeS_len k _ _ _ (toksL_len ks)
theorem toksL_len : ∀ (l : List Tree) (i : Nat), (nthS (toksL l) i).length ≤ (nthB (printL l) i).length
  | [], i => by simp [toksL, printL, nthS]
  | t :: ts, 0 => by
    have := toksT_len t
    simpa [toksL, printL, nthS, nthB] using this
  | t :: ts, i + 1 => by
    have := toksL_len ts i
    simpa [toksL, printL, nthS, nthB] using this
end
theorem lex_empty (n at_ : Nat) : (lexL n [] at_).map (·.1) = [[]] := by
  cases n with
  | zero => rfl
  | succ n => rfl
/-- A print's way back. -/
theorem parse_print (t : Tree) (h : allP t = true) : (4000 < (printT t).length ∧ parseL (printT t) = (.zero, 0, 232)) ∨ ((printT t).length ≤ 4000 ∧ ((∃ at_, parseL (printT t) = (.zero, at_, 231)) ∨ ∃ t', parseL (printT t) = (t', 0, 0) ∧ strip t' = strip t)) := by
  by_cases hl : 4000 < (printT t).length
  · exact .inl ⟨hl, by unfold parseL; rw [if_pos hl]⟩
  · refine .inr ⟨by omega, ?_⟩
    have hlex : texts { toks := lexFrom (printT t) 0, depth := 0, e := 0, eat := 0 } = toksT t ++ [[]] := by
      obtain ⟨at', hx⟩ := lx_tree t h [] (.inl rfl) ((printT t).length + 1) 0
      have := toksT_len t
      have hx := hx (by omega)
      rw [List.append_nil, lex_empty] at hx
      unfold texts lexFrom
      rw [List.drop_zero]
      exact hx
    have hR := iff_res0 (un_tree t h 30 0 _ [[]] rfl rfl rfl hlex) (by simp [opsL])
    unfold parseL
    rw [if_neg hl]
    simp only
    generalize (lev (30 + 1)).iff_ { toks := lexFrom (printT t) 0, depth := 0, e := 0, eat := 0 } = R at *
    obtain ⟨_, hR⟩ := hR
    rcases hR with he | ⟨he, ht, hs⟩
    · left
      refine ⟨R.2.eat, ?_⟩
      have hc : (if R.2.e = 0 ∧ R.2.hd.1 ≠ [] then R.2.bad 230 else R.2) = R.2 := if_neg (by omega)
      rw [hc, if_pos (by omega), he]
    · right
      have hh : R.2.hd.1 = [] := by rw [hd_texts, ht]; rfl
      refine ⟨R.1, ?_, hs⟩
      have hc : (if R.2.e = 0 ∧ R.2.hd.1 ≠ [] then R.2.bad 230 else R.2) = R.2 := if_neg (fun h => h.2 hh)
      rw [hc, if_neg (by omega)]
end Go.Proofs.Ytmjpecjciibngaa
