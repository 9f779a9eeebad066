/- What the reader gives: the error's place lies in the text; a formula that is read is one, and no greater than the text. Plain facts. What Parse gives, for every text. Plain facts. ExprBack: what is needed of the formulas. Plain facts. -/
import Derived.Test.YtmjpecjciibngaaBTri
import Derived.Test.YtmjpecjciibngaaSame2
namespace Go.Proofs.Ytmjpecjciibngaa
open Go.RowKit
set_option linter.unusedVariables false

def PosOK (L : Nat) (p : PS) : Prop := (∀ t ∈ p.toks, t.2 ≤ L) ∧ p.eat ≤ L
/-- From p on to q, at depth d, n signs or formulas on. -/
def St (L d : Nat) (p q : PS) (n : Nat) : Prop := q.depth = d ∧ PosOK L q ∧ q.toks.length ≤ p.toks.length ∧ (q.e = 0 → p.e = 0 ∧ n + q.toks.length ≤ p.toks.length)
theorem St.trans {L d : Nat} {p q r : PS} {n m : Nat} (h : St L d p q n) (k : St L d q r m) : St L d p r (n + m) :=
  ⟨k.1, k.2.1, Nat.le_trans k.2.2.1 h.2.2.1, fun e => by
    have h1 := k.2.2.2 e
    have h2 := h.2.2.2 h1.1
    exact ⟨h2.1, by omega⟩⟩
theorem St.less {L d : Nat} {p q : PS} {n m : Nat} (h : St L d p q n) (hm : m ≤ n) : St L d p q m := ⟨h.1, h.2.1, h.2.2.1, fun e => ⟨(h.2.2.2 e).1, by have := (h.2.2.2 e).2; omega⟩⟩
theorem St.refl {L d : Nat} {p : PS} (hd : p.depth = d) (hp : PosOK L p) : St L d p p 0 := ⟨hd, hp, Nat.le_refl _, fun e => ⟨e, by omega⟩⟩
theorem hd_le {L : Nat} {p : PS} (h : PosOK L p) : p.at_ ≤ L := by
  unfold PS.at_ PS.hd
  cases hx : p.toks with
  | nil => simp
  | cons a l => exact h.1 a (by rw [hx]; simp)
theorem goes_pos {L : Nat} {p : PS} (h : PosOK L p) : PosOK L p.goes := ⟨fun t ht => h.1 t (List.mem_of_mem_tail ht), h.2⟩
theorem bad_st {L d : Nat} {p : PS} (hd : p.depth = d) (h : PosOK L p) (k : Nat) (hk : k ≠ 0) (n : Nat) : St L d p (p.bad k) n := by
  unfold PS.bad
  split
  · exact ⟨hd, ⟨h.1, hd_le h⟩, Nat.le_refl _, fun e => absurd e hk⟩
  · next he => exact ⟨hd, h, Nat.le_refl _, fun e => absurd e he⟩
theorem goes_st {L d : Nat} {p : PS} (hd : p.depth = d) (h : PosOK L p) (hne : p.hd.1 ≠ []) : St L d p p.goes 1 := by
  have : p.toks ≠ [] := by intro e; apply hne; unfold PS.hd; rw [e]; rfl
  have hl : 0 < p.toks.length := List.length_pos_iff.2 this
  refine ⟨hd, goes_pos h, by unfold PS.goes; simp, fun e => ⟨e, ?_⟩⟩
  unfold PS.goes
  simp only [List.length_tail]
  omega
theorem may_st {L d : Nat} {p : PS} (hd : p.depth = d) (h : PosOK L p) (c : Bs) (hc : c ≠ []) : ((p.may c).1 = true → St L d p (p.may c).2 1) ∧ ((p.may c).1 = false → (p.may c).2 = p) := by
  unfold PS.may
  split
  · next hh => exact ⟨fun _ => goes_st hd h (by rw [hh.2]; exact hc), fun e => absurd e (by simp)⟩
  · exact ⟨fun e => absurd e (by simp), fun _ => rfl⟩
theorem must_st {L d : Nat} {p : PS} (hd : p.depth = d) (h : PosOK L p) (c : Bs) (hc : c ≠ []) : St L d p (p.must c) 1 := by
  obtain ⟨h1, h2⟩ := may_st hd h c hc
  unfold PS.must
  simp only
  split
  · next e => exact h1 e
  · next e =>
    rw [h2 (by simpa using e)]
    exact bad_st hd h 230 (by decide) 1
/-- The reader R, at depth d. -/
def Inv (L d : Nat) (R : Rd) : Prop := ∀ p : PS, p.depth = d → PosOK L p → St L d p (R p).2 (sizeT (R p).1) ∧ ((R p).2.e = 0 → allP (R p).1 = true)
theorem within_inv {L d : Nat} {R : Rd} (h : d + 1 ≤ 30 → Inv L (d + 1) R) : Inv L d (within R) := by
  intro p hd hp
  unfold within
  by_cases h30 : 30 < p.depth + 1
  · simp only [if_pos h30]
    have hb := bad_st (L := L) (d := d + 1) (p := { p with depth := p.depth + 1 }) (by simp [hd]) hp 231 (by decide) 0
    have he : (({ p with depth := p.depth + 1 } : PS).bad 231).e ≠ 0 := by
      unfold PS.bad
      split
      · simp
      · next he => exact he
    rw [if_pos he]
    exact ⟨⟨by simp only; rw [hb.1]; omega, hb.2.1, hb.2.2.1, fun e => absurd e he⟩, fun e => absurd e he⟩
  · simp only [if_neg h30]
    by_cases he : p.e = 0
    · rw [if_neg (by simpa using he)]
      have hR := h (by omega) { p with depth := p.depth + 1 } (by simp [hd]) hp
      generalize R { p with depth := p.depth + 1 } = Q at *
      obtain ⟨⟨h1, h2, h3, h4⟩, h5⟩ := hR
      exact ⟨⟨by simp only; omega, h2, h3, h4⟩, h5⟩
    · rw [if_pos he]
      exact ⟨⟨by simp only; omega, hp, Nat.le_refl _, fun e => absurd e he⟩, fun e => absurd e he⟩
theorem chainGo_inv {L d : Nat} {R : Rd} (h : Inv L d R) (c : Bs) (hc : c ≠ []) (kind : Int) (hk : plainB kind 0 2 = true) : ∀ (n : Nat) (p : PS) (e : Tree) (q : PS), St L d p q (sizeT e) → (q.e = 0 → allP e = true) →
    St L d p (chainGo c kind R n e q).2 (sizeT (chainGo c kind R n e q).1) ∧ ((chainGo c kind R n e q).2.e = 0 → allP (chainGo c kind R n e q).1 = true)
  | 0, p, e, q, h1, h2 => ⟨h1, h2⟩
  | n + 1, p, e, q, h1, h2 => by
    obtain ⟨m1, m2⟩ := may_st (L := L) (d := d) h1.1 h1.2.1 c hc
    simp only [chainGo]
    cases hm : (q.may c).1
    · simp only [Bool.false_eq_true, if_false]
      rw [m2 hm]
      exact ⟨h1, h2⟩
    · simp only [if_true]
      have s1 := m1 hm
      obtain ⟨s2, a2⟩ := h (q.may c).2 s1.1 s1.2.1
      generalize R (q.may c).2 = Q at *
      have s3 := (h1.trans s1).trans s2
      refine chainGo_inv h c hc kind hk n p (.node kind q.at_ 0 [e, Q.1]) Q.2 (s3.less (by simp only [sizeT, sizeL]; omega)) fun e0 => ?_
      have e1 := (s2.2.2.2 e0).1
      have e2 := (s1.2.2.2 e1).1
      simp only [allP, allPL, List.length_cons, List.length_nil, h2 e2, a2 e0, Bool.and_true]
      exact hk
theorem chain_inv {L d : Nat} {R : Rd} (h : Inv L d R) (c : Bs) (hc : c ≠ []) (kind : Int) (hk : plainB kind 0 2 = true) : Inv L d (chain c kind R) := fun p hd hp => by
  have hR := h p hd hp
  exact chainGo_inv h c hc kind hk _ p _ _ hR.1 hR.2
theorem or_inv {L d : Nat} {un : Rd} (h : Inv L d un) : Inv L d (orP un) :=
  chain_inv (chain_inv (chain_inv h [38] (by simp) 4 (by decide)) [94] (by simp) 6 (by decide)) [124] (by simp) 5 (by decide)
theorem imp_inv {L d : Nat} {un imp : Rd} (h : Inv L d un) (h2 : d + 1 ≤ 30 → Inv L (d + 1) imp) : Inv L d (impP un imp) := fun p hd hp => by
  obtain ⟨s1, a1⟩ := or_inv h p hd hp
  obtain ⟨m1, m2⟩ := may_st (L := L) (d := d) s1.1 s1.2.1 [45, 62] (by simp)
  unfold impP
  simp only
  generalize orP un p = Q at *
  cases hm : (Q.2.may [45, 62]).1
  · simp only [Bool.false_eq_true, if_false]
    rw [m2 hm]
    exact ⟨s1, a1⟩
  · simp only [if_true]
    have s2 := m1 hm
    obtain ⟨s3, a3⟩ := within_inv h2 (Q.2.may [45, 62]).2 s2.1 s2.2.1
    generalize within imp (Q.2.may [45, 62]).2 = Q3 at *
    refine ⟨((s1.trans s2).trans s3).less (by simp only [sizeT, sizeL]; omega), fun e0 => ?_⟩
    have e1 := (s3.2.2.2 e0).1
    have e2 := (s2.2.2.2 e1).1
    simp only [allP, allPL, List.length_cons, List.length_nil, a1 e2, a3 e0, Bool.and_true]
    decide
theorem isVar_digit {v : Bs} (h : isVar v = true) : v ≠ [] ∧ digitOf v 1 ≤ 7 := by
  match v, h with
  | [a, b], h =>
    simp only [isVar, Bool.and_eq_true, decide_eq_true_eq] at h
    refine ⟨by simp, ?_⟩
    simp only [digitOf, List.getD, List.getElem?_cons_succ, List.getElem?_cons_zero, Option.getD_some]
    omega
theorem bound_inv {L d : Nat} {un : Rd} (h : d + 1 ≤ 30 → Inv L (d + 1) un) (kind at_ : Int) (hk : kind = 10 ∨ kind = 11) : Inv L d (boundP un kind at_) := fun p hd hp => by
  unfold boundP
  simp only
  cases hv : isVar p.hd.1
  · simp only [Bool.false_eq_true, if_false]
    have hb := bad_st hd hp 230 (by decide) (sizeT .zero)
    have he : (p.bad 230).e ≠ 0 := by
      unfold PS.bad
      split
      · simp
      · next he => exact he
    exact ⟨hb, fun e => absurd e he⟩
  · simp only [if_true]
    obtain ⟨hn, h7⟩ := isVar_digit hv
    have s1 := goes_st hd hp hn
    obtain ⟨s2, a2⟩ := within_inv h p.goes s1.1 s1.2.1
    generalize within un p.goes = Q at *
    refine ⟨(s1.trans s2).less (by simp only [sizeT, sizeL]; omega), fun e0 => ?_⟩
    simp only [allP, allPL, List.length_cons, List.length_nil, a2 e0, Bool.and_true]
    unfold plainB
    rcases hk with rfl | rfl <;> simp [kidsOf, topOf] <;> omega
def sumL : List Tree → Nat := sizeL
theorem iteStep_inv {L d : Nat} {iff_ : Rd} (h : d + 1 ≤ 30 → Inv L (d + 1) iff_) (c : Bs) (hc : c ≠ []) (p q : PS) (l : List Tree) (s : St L d p q (sizeL l)) (a : q.e = 0 → allPL l = true) :
    St L d p (iteStep iff_ c l q).2 (sizeL (iteStep iff_ c l q).1 + 1) ∧ ((iteStep iff_ c l q).2.e = 0 → allPL (iteStep iff_ c l q).1 = true) ∧ (iteStep iff_ c l q).1.length = l.length + 1 := by
  have s1 := must_st s.1 s.2.1 c hc
  obtain ⟨s2, a2⟩ := within_inv h (q.must c) s1.1 s1.2.1
  unfold iteStep
  simp only
  generalize within iff_ (q.must c) = Q at *
  refine ⟨((s.trans s1).trans s2).less (by rw [sizeL_app]; simp only [sizeL]; omega), fun e0 => ?_, by simp⟩
  have e1 := (s2.2.2.2 e0).1
  have e2 := (s1.2.2.2 e1).1
  refine allPL_mem _ fun t ht => ?_
  rcases List.mem_append.1 ht with ht | ht
  · exact allPL_all _ (a e2) t ht
  · obtain rfl : t = Q.1 := by simpa using ht
    exact a2 e0
theorem ite_inv {L d : Nat} {iff_ : Rd} (h : d + 1 ≤ 30 → Inv L (d + 1) iff_) (at_ : Int) : Inv L d (iteP iff_ at_) := fun p hd hp => by
  obtain ⟨s1, a1, l1⟩ := iteStep_inv h [40] (by simp) p p [] (St.refl hd hp) (fun _ => by unfold allPL; rfl)
  obtain ⟨s2, a2, l2⟩ := iteStep_inv h [44] (by simp) p _ _ (s1.less (by omega)) a1
  obtain ⟨s3, a3, l3⟩ := iteStep_inv h [44] (by simp) p _ _ (s2.less (by omega)) a2
  unfold iteP
  simp only
  generalize iteStep iff_ [44] (iteStep iff_ [44] (iteStep iff_ [40] [] p).1 (iteStep iff_ [40] [] p).2).1 (iteStep iff_ [44] (iteStep iff_ [40] [] p).1 (iteStep iff_ [40] [] p).2).2 = Q at *
  have s4 := must_st s3.1 s3.2.1 [41] (by simp)
  refine ⟨(s3.trans s4).less (by simp only [sizeT]; omega), fun e0 => ?_⟩
  have e1 := (s4.2.2.2 e0).1
  have hl : Q.1.length = 3 := by rw [l3, l2, l1]; rfl
  simp only [allP, a3 e1, Bool.and_true, hl]
  decide
theorem prim_inv {L d : Nat} {iff_ : Rd} (h : d + 1 ≤ 30 → Inv L (d + 1) iff_) : Inv L d (primP iff_) := fun p hd hp => by
  unfold primP
  simp only
  cases hv : isVar p.hd.1
  · simp only [Bool.false_eq_true, if_false]
    split
    · next hc =>
      have hn : p.hd.1 ≠ [] := by rcases hc with e | e <;> rw [e] <;> simp
      refine ⟨(goes_st hd hp hn).less (by simp [sizeT, sizeL]), fun _ => ?_⟩
      rcases hc with e | e <;> rw [e] <;> simp only [allP, allPL, List.length_nil] <;> decide
    · obtain ⟨m1, m2⟩ := may_st hd hp [40] (by simp)
      cases hm : (p.may [40]).1
      · simp only [Bool.false_eq_true, if_false]
        rw [m2 hm]
        obtain ⟨n1, n2⟩ := may_st hd hp [105, 116, 101] (by simp)
        cases hn : (p.may [105, 116, 101]).1
        · simp only [Bool.false_eq_true, if_false]
          rw [n2 hn]
          have he : (p.bad 230).e ≠ 0 := by
            unfold PS.bad
            split
            · simp
            · next he => exact he
          exact ⟨bad_st hd hp 230 (by decide) _, fun e => absurd e he⟩
        · simp only [if_true]
          have s1 := n1 hn
          obtain ⟨s2, a2⟩ := ite_inv h p.hd.2 (p.may [105, 116, 101]).2 s1.1 s1.2.1
          exact ⟨(s1.trans s2).less (by omega), a2⟩
      · simp only [if_true]
        have s1 := m1 hm
        obtain ⟨s2, a2⟩ := within_inv h (p.may [40]).2 s1.1 s1.2.1
        generalize within iff_ (p.may [40]).2 = Q at *
        have s3 := must_st s2.1 s2.2.1 [41] (by simp)
        exact ⟨((s1.trans s2).trans s3).less (by omega), fun e0 => a2 (s3.2.2.2 e0).1⟩
  · simp only [if_true]
    obtain ⟨hn, h7⟩ := isVar_digit hv
    refine ⟨(goes_st hd hp hn).less (by simp [sizeT, sizeL]), fun _ => ?_⟩
    simp only [allP, allPL, List.length_nil, Bool.and_true]
    unfold plainB
    simp [kidsOf, topOf]
    omega
theorem un_inv {L d : Nat} {un iff_ : Rd} (h1 : d + 1 ≤ 30 → Inv L (d + 1) un) (h2 : d + 1 ≤ 30 → Inv L (d + 1) iff_) : Inv L d (unP un iff_) := fun p hd hp => by
  unfold unP
  split
  · next he => exact ⟨⟨hd, hp, Nat.le_refl _, fun e => absurd e he⟩, fun e => absurd e he⟩
  · simp only
    obtain ⟨m1, m2⟩ := may_st hd hp [33] (by simp)
    cases hm : (p.may [33]).1
    · simp only [Bool.false_eq_true, if_false]
      rw [m2 hm]
      obtain ⟨n1, n2⟩ := may_st hd hp [97, 108, 108] (by simp)
      cases hn : (p.may [97, 108, 108]).1
      · simp only [Bool.false_eq_true, if_false]
        rw [n2 hn]
        obtain ⟨o1, o2⟩ := may_st hd hp [97, 110, 121] (by simp)
        cases ho : (p.may [97, 110, 121]).1
        · simp only [Bool.false_eq_true, if_false]
          rw [o2 ho]
          exact prim_inv h2 p hd hp
        · simp only [if_true]
          have s1 := o1 ho
          obtain ⟨s2, a2⟩ := bound_inv h1 11 p.at_ (.inr rfl) (p.may [97, 110, 121]).2 s1.1 s1.2.1
          exact ⟨(s1.trans s2).less (by omega), a2⟩
      · simp only [if_true]
        have s1 := n1 hn
        obtain ⟨s2, a2⟩ := bound_inv h1 10 p.at_ (.inl rfl) (p.may [97, 108, 108]).2 s1.1 s1.2.1
        exact ⟨(s1.trans s2).less (by omega), a2⟩
    · simp only [if_true]
      have s1 := m1 hm
      obtain ⟨s2, a2⟩ := within_inv h1 (p.may [33]).2 s1.1 s1.2.1
      generalize within un (p.may [33]).2 = Q at *
      refine ⟨(s1.trans s2).less (by simp only [sizeT, sizeL]; omega), fun e0 => ?_⟩
      simp only [allP, allPL, List.length_cons, List.length_nil, a2 e0, Bool.and_true]
      decide
theorem lev_inv (L : Nat) : ∀ m d, m + d = 30 → Inv L d (lev (m + 1)).un ∧ Inv L d (lev (m + 1)).imp ∧ Inv L d (lev (m + 1)).iff_
  | m, d, hd => by
    have ih : d + 1 ≤ 30 → Inv L (d + 1) (lev m).un ∧ Inv L (d + 1) (lev m).imp ∧ Inv L (d + 1) (lev m).iff_ := fun h30 => by
      match m, hd with
      | 0, hd => omega
      | m + 1, hd => exact lev_inv L m (d + 1) (by omega)
    rw [lev_iff, lev_imp, lev_un]
    generalize (lev m).un = un_ at *
    generalize (lev m).imp = imp_ at *
    generalize (lev m).iff_ = iff_ at *
    have h1 : Inv L d (unP un_ iff_) := un_inv (fun h => (ih h).1) (fun h => (ih h).2.2)
    have h2 : Inv L d (impP (unP un_ iff_) imp_) := imp_inv h1 (fun h => (ih h).2.1)
    exact ⟨h1, h2, chain_inv h2 [60, 45, 62] (by simp) 8 (by decide)⟩
end Go.Proofs.Ytmjpecjciibngaa
namespace Go.Proofs.Ytmjpecjciibngaa
open Go.RowKit
set_option linter.unusedVariables false

theorem lex_pos : ∀ (n : Nat) (l : Bs) (at_ : Nat), (∀ t ∈ lexL n l at_, t.2 ≤ at_ + l.length) ∧ (lexL n l at_).length ≤ l.length + 1
  | 0, l, at_ => ⟨fun t ht => by obtain rfl : t = ([], at_) := by simpa [lexL] using ht
                                 simp, by simp [lexL]⟩
  | n + 1, l, at_ => by
    have hb := (List.takeWhile_prefix isBlank (l := l)).length_le
    simp only [lexL]
    generalize (l.takeWhile isBlank).length = b at *
    by_cases hs : scanL (l.drop b) = [] ∨ scanL (l.drop b) = [63]
    · rw [if_pos (by simpa using hs)]
      refine ⟨fun t ht => ?_, by simp⟩
      obtain rfl : t = (scanL (l.drop b), at_ + b) := by simpa using ht
      simp only; omega
    · rw [if_neg (by simpa using hs)]
      have hp := (scan_prefix (l := l.drop b) (fun e => hs (.inr e))).length_le
      have h1 : 1 ≤ (scanL (l.drop b)).length := by
        cases h : scanL (l.drop b) with
        | nil => exact absurd (.inl h) hs
        | cons a l => simp
      rw [List.length_drop] at hp
      have ih := lex_pos n ((l.drop b).drop (scanL (l.drop b)).length) (at_ + b + (scanL (l.drop b)).length)
      simp only [List.length_drop] at ih
      generalize (scanL (l.drop b)).length = k at *
      refine ⟨fun t ht => ?_, by simp only [List.length_cons]; omega⟩
      rcases List.mem_cons.1 ht with rfl | ht
      · simp only; omega
      · have := ih.1 t ht
        omega
/-- An error lies in the text, and nothing is read; else it is a formula, no greater than the text. -/
theorem parse_good (s : Bs) (hs : s.length ≤ 4000) : ((parseL s).2.2 ≠ 0 → (parseL s).2.1 ≤ s.length ∧ (parseL s).1 = .zero) ∧ ((parseL s).2.2 = 0 → (parseL s).2.1 = 0 ∧ allP (parseL s).1 = true ∧ sizeT (parseL s).1 ≤ s.length + 1) := by
  have hlex := lex_pos (s.length + 1) s 0
  have hR := (lev_inv s.length 30 0 rfl).2.2 { toks := lexFrom s 0, depth := 0, e := 0, eat := 0 } rfl ⟨fun t ht => by
    have := hlex.1 t (by unfold lexFrom at ht; rwa [List.drop_zero] at ht)
    omega, by simp⟩
  have hl2 : (lexFrom s 0).length ≤ s.length + 1 := by unfold lexFrom; rw [List.drop_zero]; exact hlex.2
  unfold parseL
  rw [if_neg (by omega)]
  simp only
  generalize (lev (30 + 1)).iff_ { toks := lexFrom s 0, depth := 0, e := 0, eat := 0 } = R at *
  obtain ⟨hS, hA⟩ := hR
  have hb := bad_st (L := s.length) (d := 0) hS.1 hS.2.1 230 (by decide) 0
  obtain ⟨q, hq⟩ : ∃ q, q = (if R.2.e = 0 ∧ R.2.hd.1 ≠ [] then R.2.bad 230 else R.2) := ⟨_, rfl⟩
  have hqp : PosOK s.length q := by rw [hq]; split; exact hb.2.1; exact hS.2.1
  have hqe : q.e = 0 → R.2.e = 0 := fun e => by
    rw [hq] at e
    split at e
    · next h => exact h.1
    · exact e
  rw [← hq]
  by_cases he : q.e = 0
  · rw [if_neg (by simpa using he)]
    have h0 := hqe he
    have h1 := (hS.2.2.2 h0).2
    refine ⟨fun h => absurd rfl h, fun _ => ⟨rfl, hA h0, ?_⟩⟩
    simp only at h1 ⊢
    omega
  · rw [if_pos he]
    exact ⟨fun _ => ⟨hqp.2, rfl⟩, fun h => absurd h he⟩
end Go.Proofs.Ytmjpecjciibngaa
namespace Go.Proofs.Ytmjpecjciibngaa
open Go.RowKit
set_option linter.unusedVariables false

mutual
theorem same_strip : ∀ t u : Tree, strip t = strip u → sameT t u = true
  | .node k a v ks, .node k' a' v' ks', h => by
    simp only [strip, Tree.node.injEq, true_and] at h
    obtain ⟨rfl, rfl, hk⟩ := h
    have hl : ks.length = ks'.length := by rw [← stripL_len ks, ← stripL_len ks', hk]
    unfold sameT
    simp [hl, sameL_strip ks ks' hk]
theorem sameL_strip : ∀ l m : List Tree, stripL l = stripL m → sameL l m = true
  | [], _, _ => by unfold sameL; rfl
  | _ :: _, [], h => by simp [stripL] at h
  | t :: ts, u :: us, h => by
    simp only [stripL, List.cons.injEq] at h
    unfold sameL
    rw [same_strip t u h.1, sameL_strip ts us h.2]; rfl
end
mutual
theorem print_strip : ∀ t : Tree, printT (strip t) = printT t
  | .node k a v ks => by simp only [strip, printT, printL_strip ks]
theorem printL_strip : ∀ l : List Tree, printL (stripL l) = printL l
  | [] => rfl
  | t :: ts => by simp only [stripL, printL, print_strip t, printL_strip ts]
end
theorem nodeB_len (k : Int) (v : Nat) (m : List Bs) : (nodeB k v m).length ≤ 16 + ((nthB m 0).length + (nthB m 1).length + (nthB m 2).length) := by
  have hs : (sgL k).length ≤ 3 := by unfold sgL; (repeat' split) <;> simp
  unfold nodeB
  (repeat' split) <;> simp [inB] <;> omega
mutual
theorem print_len : ∀ t : Tree, allP t = true → (printT t).length ≤ 16 * sizeT t
  | .node k a v ks, h => by
    unfold allP at h
    rw [Bool.and_eq_true] at h
    have h3 := plainB_le h.1
    have hL := printL_len ks h.2
    have hn := nodeB_len k v.toNat (printL ks)
    have hsum : (nthB (printL ks) 0).length + (nthB (printL ks) 1).length + (nthB (printL ks) 2).length ≤ 16 * sizeL ks := hL
    unfold printT sizeT
    omega
theorem printL_len : ∀ l : List Tree, allPL l = true → (nthB (printL l) 0).length + (nthB (printL l) 1).length + (nthB (printL l) 2).length ≤ 16 * sizeL l
  | [], _ => by simp [printL, nthB]
  | [t], h => by
    simp only [allPL, Bool.and_true] at h
    have := print_len t h
    simp [printL, nthB, sizeL]; omega
  | [t, u], h => by
    simp only [allPL, Bool.and_true, Bool.and_eq_true] at h
    have h1 := print_len t h.1
    have h2 := print_len u h.2
    simp [printL, nthB, sizeL]; omega
  | t :: u :: x :: r, h => by
    simp only [allPL, Bool.and_eq_true] at h
    have h1 := print_len t h.1
    have h2 := print_len u h.2.1
    have h3 := print_len x h.2.2.1
    simp [printL, nthB, sizeL]; omega
end
/-- A formula that was read out of a short text. -/
structure Fine (t : Tree) : Prop where
  all : allP t = true
  is : isT t = true
  small : smallT t = true
  len : (printT t).length ≤ 1000000
  print : printS t = printT t
theorem fine_of {t : Tree} (h : allP t = true) (hs : sizeT t ≤ 4000) : Fine t :=
  ⟨h, isT_of h hs, small_of t h, by have := print_len t h; omega, by unfold printS; rw [isT_of h hs]; rfl⟩
theorem fine_strip {t u : Tree} (h : Fine t) (hs : sizeT t ≤ 4000) (e : strip u = strip t) : Fine u ∧ sameT t u = true ∧ printT u = printT t ∧ funcF u = funcF t := by
  have hu : allP u = true := by rw [← strip_allP, e, strip_allP]; exact h.all
  have hsu : sizeT u ≤ 4000 := by rw [← strip_size, e, strip_size]; exact hs
  have hF := fine_of hu hsu
  refine ⟨hF, same_strip t u e.symm, by rw [← print_strip, e, print_strip], ?_⟩
  unfold funcF
  rw [h.is, hF.is]
  simp only [if_true]
  rw [← strip_tb u, e, strip_tb]
/-- The three ways of the law. -/
theorem back_ways (s : Bs) (hs : s.length ≤ 2000) (h0 : (parseL s).2.2 = 0) : Fine (parseL s).1 ∧
    ((4000 < (printT (parseL s).1).length ∧ (parseL (printT (parseL s).1)).2.2 = 232) ∨ ((printT (parseL s).1).length ≤ 4000 ∧ (parseL (printT (parseL s).1)).2.2 = 231) ∨
      ((parseL (printT (parseL s).1)).2.2 = 0 ∧ Fine (parseL (printT (parseL s).1)).1 ∧ sameT (parseL s).1 (parseL (printT (parseL s).1)).1 = true ∧ printT (parseL (printT (parseL s).1)).1 = printT (parseL s).1 ∧ funcF (parseL (printT (parseL s).1)).1 = funcF (parseL s).1)) := by
  obtain ⟨_, hA, hz⟩ := (parse_good s (by omega)).2 h0
  have hF := fine_of hA (by omega)
  refine ⟨hF, ?_⟩
  rcases parse_print _ hA with ⟨h1, h2⟩ | ⟨h1, ⟨at_, h2⟩ | ⟨t', h2, h3⟩⟩
  · exact .inl ⟨h1, by rw [h2]⟩
  · exact .inr (.inl ⟨h1, by rw [h2]⟩)
  · obtain ⟨f1, f2, f3, f4⟩ := fine_strip hF (by omega) h3
    exact .inr (.inr ⟨by rw [h2], by rw [h2]; exact f1, by rw [h2]; exact f2, by rw [h2]; exact f3, by rw [h2]; exact f4⟩)
end Go.Proofs.Ytmjpecjciibngaa
