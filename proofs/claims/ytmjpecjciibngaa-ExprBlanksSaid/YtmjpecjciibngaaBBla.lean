/- The readers hang on the signs' texts alone, but for places. Plain facts. Blanks between signs: the lexer finds the same signs. Plain facts. ExprBlanks: what is needed of the formulas. Plain facts. -/
import Derived.Test.YtmjpecjciibngaaBTri
import Derived.Test.YtmjpecjciibngaaBGoo
namespace Go.Proofs.Ytmjpecjciibngaa
open Go.RowKit
set_option linter.unusedVariables false

/-- The same signs, depth and error; whatever the places. -/
structure Alike (p q : PS) : Prop where
  t : texts p = texts q
  d : p.depth = q.depth
  e : p.e = q.e
def Free (R : Rd) : Prop := ∀ p q : PS, Alike p q → strip (R p).1 = strip (R q).1 ∧ Alike (R p).2 (R q).2
theorem Alike.hd {p q : PS} (h : Alike p q) : p.hd.1 = q.hd.1 := by rw [hd_texts, hd_texts, h.t]
theorem Alike.goes {p q : PS} (h : Alike p q) : Alike p.goes q.goes := ⟨by rw [goes_texts, goes_texts, h.t], h.d, h.e⟩
theorem Alike.bad {p q : PS} (h : Alike p q) (k : Nat) : Alike (p.bad k) (q.bad k) := by
  unfold PS.bad
  by_cases he : p.e = 0
  · rw [if_pos he, if_pos (by rw [← h.e]; exact he)]
    exact ⟨h.t, h.d, rfl⟩
  · rw [if_neg he, if_neg (by rw [← h.e]; exact he)]
    exact h
theorem Alike.may {p q : PS} (h : Alike p q) (c : Bs) : (p.may c).1 = (q.may c).1 ∧ Alike (p.may c).2 (q.may c).2 := by
  unfold PS.may
  by_cases hc : p.e = 0 ∧ p.hd.1 = c
  · rw [if_pos hc, if_pos (by rw [← h.e, ← h.hd]; exact hc)]
    exact ⟨rfl, h.goes⟩
  · rw [if_neg hc, if_neg (by rw [← h.e, ← h.hd]; exact hc)]
    exact ⟨rfl, h⟩
theorem Alike.must {p q : PS} (h : Alike p q) (c : Bs) : Alike (p.must c) (q.must c) := by
  have hm := h.may c
  unfold PS.must
  simp only [← hm.1]
  split
  · exact hm.2
  · exact hm.2.bad 230
theorem within_free {R : Rd} (h : Free R) : Free (within R) := by
  intro p q hpq
  have h1 : Alike { p with depth := p.depth + 1 } { q with depth := q.depth + 1 } := ⟨hpq.t, by simp [hpq.d], hpq.e⟩
  have h2 : Alike (if 30 < p.depth + 1 then ({ p with depth := p.depth + 1 } : PS).bad 231 else { p with depth := p.depth + 1 }) (if 30 < q.depth + 1 then ({ q with depth := q.depth + 1 } : PS).bad 231 else { q with depth := q.depth + 1 }) := by
    rw [← hpq.d] at h1 ⊢
    split
    · exact h1.bad 231
    · exact h1
  unfold within
  simp only
  generalize (if 30 < p.depth + 1 then ({ p with depth := p.depth + 1 } : PS).bad 231 else { p with depth := p.depth + 1 }) = P at *
  generalize (if 30 < q.depth + 1 then ({ q with depth := q.depth + 1 } : PS).bad 231 else { q with depth := q.depth + 1 }) = Q at *
  by_cases he : P.e = 0
  · rw [if_neg (by simpa using he), if_neg (by rw [← h2.e]; simpa using he)]
    have := h P Q h2
    exact ⟨this.1, ⟨this.2.t, by simp [this.2.d], this.2.e⟩⟩
  · rw [if_pos he, if_pos (by rw [← h2.e]; exact he)]
    exact ⟨rfl, ⟨h2.t, by simp [h2.d], h2.e⟩⟩
theorem chainGo_free {R : Rd} (h : Free R) (c : Bs) (kind : Int) : ∀ (n : Nat) (e f : Tree) (p q : PS), strip e = strip f → Alike p q → strip (chainGo c kind R n e p).1 = strip (chainGo c kind R n f q).1 ∧ Alike (chainGo c kind R n e p).2 (chainGo c kind R n f q).2
  | 0, e, f, p, q, he, hpq => ⟨he, hpq⟩
  | n + 1, e, f, p, q, he, hpq => by
    have hm := hpq.may c
    simp only [chainGo]
    rw [← hm.1]
    split
    · have hr := h _ _ hm.2
      exact chainGo_free h c kind n _ _ _ _ (by simp only [strip, stripL, he, hr.1]) hr.2
    · exact ⟨he, hm.2⟩
theorem Alike.len {p q : PS} (h : Alike p q) : p.toks.length = q.toks.length := by
  have := congrArg List.length h.t
  simpa [texts] using this
theorem chain_free {R : Rd} (h : Free R) (c : Bs) (kind : Int) : Free (chain c kind R) := fun p q hpq => by
  have hr := h p q hpq
  unfold chain
  simp only
  rw [hr.2.len]
  exact chainGo_free h c kind _ _ _ _ _ hr.1 hr.2
theorem or_free {un : Rd} (h : Free un) : Free (orP un) := chain_free (chain_free (chain_free h _ _) _ _) _ _
theorem imp_free {un imp : Rd} (h : Free un) (h2 : Free imp) : Free (impP un imp) := fun p q hpq => by
  have hr := or_free h p q hpq
  have hm := hr.2.may [45, 62]
  unfold impP
  simp only
  rw [← hm.1]
  split
  · have hw := within_free h2 _ _ hm.2
    exact ⟨by simp only [strip, stripL, hr.1, hw.1], hw.2⟩
  · exact ⟨hr.1, hm.2⟩
theorem bound_free {un : Rd} (h : Free un) (kind a b : Int) (p q : PS) (hpq : Alike p q) : strip (boundP un kind a p).1 = strip (boundP un kind b q).1 ∧ Alike (boundP un kind a p).2 (boundP un kind b q).2 := by
  unfold boundP
  simp only
  rw [← hpq.hd]
  split
  · have hw := within_free h _ _ hpq.goes
    exact ⟨by simp only [strip, stripL, hw.1], hw.2⟩
  · exact ⟨rfl, hpq.bad 230⟩
theorem step_free {iff_ : Rd} (h : Free iff_) (c : Bs) (l m : List Tree) (p q : PS) (hl : stripL l = stripL m) (hpq : Alike p q) : stripL (iteStep iff_ c l p).1 = stripL (iteStep iff_ c m q).1 ∧ Alike (iteStep iff_ c l p).2 (iteStep iff_ c m q).2 := by
  have hw := within_free h _ _ (hpq.must c)
  have happ : ∀ a b : List Tree, stripL (a ++ b) = stripL a ++ stripL b := by
    intro a b
    induction a with
    | nil => simp [stripL]
    | cons t a ih => simp only [List.cons_append, stripL, ih]
  unfold iteStep
  exact ⟨by simp only [happ, hl, stripL, hw.1], hw.2⟩
theorem ite_free {iff_ : Rd} (h : Free iff_) (a b : Int) (p q : PS) (hpq : Alike p q) : strip (iteP iff_ a p).1 = strip (iteP iff_ b q).1 ∧ Alike (iteP iff_ a p).2 (iteP iff_ b q).2 := by
  have s1 := step_free h [40] [] [] p q rfl hpq
  have s2 := step_free h [44] _ _ _ _ s1.1 s1.2
  have s3 := step_free h [44] _ _ _ _ s2.1 s2.2
  unfold iteP
  simp only
  exact ⟨by simp only [strip, s3.1], s3.2.must [41]⟩
theorem prim_free {iff_ : Rd} (h : Free iff_) : Free (primP iff_) := fun p q hpq => by
  have hm := hpq.may [40]
  have hm2 := hm.2.may [105, 116, 101]
  unfold primP
  simp only
  rw [← hpq.hd]
  split
  · exact ⟨by simp only [strip, stripL], hpq.goes⟩
  · split
    · exact ⟨by simp only [strip, stripL], hpq.goes⟩
    · rw [← hm.1]
      split
      · have hw := within_free h _ _ hm.2
        exact ⟨hw.1, hw.2.must [41]⟩
      · rw [← hm2.1]
        split
        · exact ite_free h _ _ _ _ hm2.2
        · exact ⟨rfl, hm2.2.bad 230⟩
theorem un_free {un iff_ : Rd} (h1 : Free un) (h2 : Free iff_) : Free (unP un iff_) := fun p q hpq => by
  have m1 := hpq.may [33]
  have m2 := m1.2.may [97, 108, 108]
  have m3 := m2.2.may [97, 110, 121]
  unfold unP
  rw [← hpq.e]
  split
  · exact ⟨rfl, hpq⟩
  · simp only
    rw [← m1.1]
    split
    · have hw := within_free h1 _ _ m1.2
      exact ⟨by simp only [strip, stripL, hw.1], hw.2⟩
    · rw [← m2.1]
      split
      · exact bound_free h1 _ _ _ _ _ m2.2
      · rw [← m3.1]
        split
        · exact bound_free h1 _ _ _ _ _ m3.2
        · exact prim_free h2 _ _ m3.2
theorem lev_free : ∀ m, Free (lev m).un ∧ Free (lev m).imp ∧ Free (lev m).iff_
  | 0 => ⟨fun p q h => ⟨rfl, h⟩, fun p q h => ⟨rfl, h⟩, fun p q h => ⟨rfl, h⟩⟩
  | m + 1 => by
    obtain ⟨a, b, c⟩ := lev_free m
    rw [lev_iff, lev_imp, lev_un]
    generalize (lev m).un = un_ at *
    generalize (lev m).imp = imp_ at *
    generalize (lev m).iff_ = iff_ at *
    have h1 := un_free a c
    have h2 := imp_free h1 b
    exact ⟨h1, h2, chain_free h2 _ _⟩
/-- Two texts of the same signs: what is read is the same, but for places. -/
theorem parse_free (s s' : Bs) (hs : s.length ≤ 4000) (hs' : s'.length ≤ 4000) (h : (lexFrom s 0).map (·.1) = (lexFrom s' 0).map (·.1)) (h0 : (parseL s).2.2 = 0) : (parseL s').2.2 = 0 ∧ strip (parseL s').1 = strip (parseL s).1 := by
  have hF := (lev_free 31).2.2 { toks := lexFrom s 0, depth := 0, e := 0, eat := 0 } { toks := lexFrom s' 0, depth := 0, e := 0, eat := 0 } ⟨h, rfl, rfl⟩
  unfold parseL at h0 ⊢
  rw [if_neg (show ¬ 4000 < s.length by omega)] at h0 ⊢
  rw [if_neg (show ¬ 4000 < s'.length by omega)]
  simp only at h0 ⊢
  generalize (lev 31).iff_ { toks := lexFrom s 0, depth := 0, e := 0, eat := 0 } = R at *
  generalize (lev 31).iff_ { toks := lexFrom s' 0, depth := 0, e := 0, eat := 0 } = Q at *
  obtain ⟨ht, hA⟩ := hF
  have hB : Alike (if R.2.e = 0 ∧ R.2.hd.1 ≠ [] then R.2.bad 230 else R.2) (if Q.2.e = 0 ∧ Q.2.hd.1 ≠ [] then Q.2.bad 230 else Q.2) := by
    rw [← hA.e, ← hA.hd]
    split
    · exact hA.bad 230
    · exact hA
  generalize (if R.2.e = 0 ∧ R.2.hd.1 ≠ [] then R.2.bad 230 else R.2) = P at *
  generalize (if Q.2.e = 0 ∧ Q.2.hd.1 ≠ [] then Q.2.bad 230 else Q.2) = P' at *
  have he : P.e = 0 := by
    by_cases he : P.e = 0
    · exact he
    · rw [if_pos he] at h0; exact h0
  rw [if_neg (show ¬ P.e ≠ 0 by omega), if_neg (show ¬ P'.e ≠ 0 by rw [← hB.e]; omega)]
  exact ⟨rfl, ht.symm⟩
end Go.Proofs.Ytmjpecjciibngaa
namespace Go.Proofs.Ytmjpecjciibngaa
open Go.RowKit
set_option linter.unusedVariables false

def inList (c : UInt8) : Bool := [33, 38, 94, 124, 40, 41, 44].any fun y : UInt8 => c == y
/-- A sign that is to stand between blanks. -/
def blankS (b : Bs) (c : UInt8) : Bs := if inList c then b ++ [c] ++ b else [c]
def blankL (b : Bs) (l : Bs) : Bs := l.flatMap (blankS b)
/-- Blanks alone, at least one. -/
def BlankOK (b : Bs) : Prop := b ≠ [] ∧ ∀ c ∈ b, isBlank c = true
theorem inList_cases {c : UInt8} (h : inList c = true) : c = 33 ∨ c = 38 ∨ c = 94 ∨ c = 124 ∨ c = 40 ∨ c = 41 ∨ c = 44 := by
  simpa [inList] using h
theorem blankC {c : UInt8} (h : isBlank c = true) : c = 32 ∨ c = 9 ∨ c = 10 := by simpa [isBlank] using h
theorem blank_notList {c : UInt8} (h : isBlank c = true) : inList c = false := by
  rcases blankC h with rfl | rfl | rfl <;> rfl
theorem list_notWord {c : UInt8} (h : inList c = true) : (isLet c || isNum c) = false := by
  rcases inList_cases h with rfl | rfl | rfl | rfl | rfl | rfl | rfl <;> decide
theorem blank_notWord {c : UInt8} (h : isBlank c = true) : (isLet c || isNum c) = false := by
  rcases blankC h with rfl | rfl | rfl <;> decide
/-- The text behind r, with blanks; post: what follows. -/
abbrev XX (b post r : Bs) : Bs := blankL b r ++ post
theorem xx_plain {b post r : Bs} {c : UInt8} (h : inList c = false) : XX b post (c :: r) = c :: XX b post r := by simp [XX, blankL, blankS, h]
theorem xx_list {b post r : Bs} {c : UInt8} (h : inList c = true) : XX b post (c :: r) = b ++ c :: (b ++ XX b post r) := by simp [XX, blankL, blankS, h]
theorem head_blank {b post : Bs} (hb : BlankOK b) : ∃ x y, b ++ post = x :: y ∧ isBlank x = true := by
  cases b with
  | nil => exact absurd rfl hb.1
  | cons x y => exact ⟨x, y ++ post, rfl, hb.2 x (by simp)⟩
theorem prefX {b post : Bs} (hb : BlankOK b) (hp : ∀ c ∈ post, isBlank c = true) : ∀ (k r : Bs), (∀ y ∈ k, inList y = false ∧ isBlank y = false) → k.isPrefixOf (XX b post r) = k.isPrefixOf r
  | [], r, _ => by simp
  | y :: k, [], hk => by
    have hy := hk y (by simp)
    cases post with
    | nil => rfl
    | cons x xs =>
      have hx := hp x (by simp)
      have hne : (y == x) = false := by
        cases he : (y == x)
        · rfl
        · have : y = x := by simpa using he
          rw [this, hx] at hy; exact absurd hy.2 (by simp)
      simp [XX, blankL, List.isPrefixOf, hne]
  | y :: k, c :: r, hk => by
    have hy := hk y (by simp)
    have hk' : ∀ z ∈ k, inList z = false ∧ isBlank z = false := fun z hz => hk z (by simp [hz])
    cases hc : inList c
    · rw [xx_plain hc]
      simp only [List.isPrefixOf, prefX hb hp k r hk']
    · rw [xx_list hc]
      obtain ⟨x, z, e, hx⟩ := head_blank (post := c :: (b ++ XX b post r)) hb
      rw [e]
      have h1 : (y == x) = false := by
        cases he : (y == x)
        · rfl
        · have : y = x := by simpa using he
          rw [this, hx] at hy; exact absurd hy.2 (by simp)
      have h2 : (y == c) = false := by
        cases he : (y == c)
        · rfl
        · have : y = c := by simpa using he
          rw [this, hc] at hy; exact absurd hy.1 (by simp)
      simp only [List.isPrefixOf, h1, h2, Bool.false_and]
theorem wordX {b post : Bs} (hb : BlankOK b) (hp : ∀ c ∈ post, isBlank c = true) : ∀ r : Bs, word (XX b post r) = word r
  | [] => by
    cases post with
    | nil => rfl
    | cons x xs =>
      have := blank_notWord (hp x (by simp))
      simp [XX, word, blankL, this]
  | c :: r => by
    cases hc : inList c
    · rw [xx_plain hc]
      have ih := wordX hb hp r
      unfold word at ih ⊢
      simp only [List.takeWhile_cons, ih]
    · rw [xx_list hc]
      obtain ⟨x, z, e, hx⟩ := head_blank (post := c :: (b ++ XX b post r)) hb
      rw [e]
      have h1 := blank_notWord hx
      have h2 := list_notWord hc
      simp [word, h1, h2]
/-- The sign that a text begins with, where it is none of the list. -/
theorem scanX {b post : Bs} (hb : BlankOK b) (hp : ∀ c ∈ post, isBlank c = true) (c : UInt8) (r : Bs) (hc : inList c = false) (hcb : isBlank c = false) : scanL (XX b post (c :: r)) = scanL (c :: r) := by
  have h3 : ([60, 45, 62] : Bs).isPrefixOf (c :: XX b post r) = ([60, 45, 62] : Bs).isPrefixOf (c :: r) := by
    rw [← xx_plain hc]; exact prefX hb hp _ _ (by decide)
  have h2 : ([45, 62] : Bs).isPrefixOf (c :: XX b post r) = ([45, 62] : Bs).isPrefixOf (c :: r) := by
    rw [← xx_plain hc]; exact prefX hb hp _ _ (by decide)
  have h1 : ∀ y : UInt8, ([y] : Bs).isPrefixOf (c :: XX b post r) = ([y] : Bs).isPrefixOf (c :: r) := fun y => by simp [List.isPrefixOf]
  have hf : signs.find? (fun k => k.isPrefixOf (c :: XX b post r)) = signs.find? (fun k => k.isPrefixOf (c :: r)) := by
    unfold signs
    simp only [List.find?, h3, h2, h1]
  rw [xx_plain hc]
  unfold scanL
  rw [hf]
  cases signs.find? (fun k => k.isPrefixOf (c :: r)) with
  | some k => rfl
  | none => simp only [wordX hb hp r]
/-- A sign of the list. -/
theorem scan_list (c : UInt8) (r : Bs) (hc : inList c = true) : scanL (c :: r) = [c] := by
  rcases inList_cases hc with rfl | rfl | rfl | rfl | rfl | rfl | rfl <;> rfl
theorem mem_take {p : UInt8 → Bool} : ∀ (l : Bs) (y : UInt8), y ∈ l.takeWhile p → p y = true
  | [], y, h => by simp at h
  | c :: l, y, h => by
    rw [List.takeWhile_cons] at h
    split at h
    · next hc =>
      rcases List.mem_cons.1 h with rfl | h
      · exact hc
      · exact mem_take l y h
    · simp at h
theorem word_notList : ∀ (r : Bs), ∀ y ∈ word r, inList y = false := by
  intro r y hy
  have : (isLet y || isNum y) = true := mem_take r y hy
  cases h : inList y
  · rfl
  · rw [list_notWord h] at this; exact absurd this (by simp)
theorem scan_chars (c : UInt8) (r : Bs) (hc : inList c = false) (hne : scanL (c :: r) ≠ [63]) : ∀ y ∈ scanL (c :: r), inList y = false := by
  unfold scanL at hne ⊢
  cases hf : signs.find? (fun k => k.isPrefixOf (c :: r)) with
  | some k =>
    simp only
    have hm := List.mem_of_find?_eq_some hf
    have hpre := List.find?_some hf
    simp only [signs, List.mem_cons, List.not_mem_nil, or_false] at hm
    intro y hy
    rcases hm with rfl | rfl | rfl | rfl | rfl | rfl | rfl | rfl | rfl
    · simp only [List.mem_cons, List.not_mem_nil, or_false] at hy
      rcases hy with rfl | rfl | rfl <;> rfl
    · simp only [List.mem_cons, List.not_mem_nil, or_false] at hy
      rcases hy with rfl | rfl <;> rfl
    all_goals
      exfalso
      simp only [List.isPrefixOf, Bool.and_true, beq_iff_eq] at hpre
      rw [← hpre] at hc
      exact absurd hc (by decide)
  | none =>
    rw [hf] at hne
    simp only at hne ⊢
    intro y hy
    split at hy
    · next hh => simp only [List.mem_cons, List.not_mem_nil, or_false] at hy; rw [hy]; exact hc
    · next hh =>
      rw [if_neg hh] at hne
      split at hy
      · next h2 => rw [if_pos h2] at hne; exact absurd rfl hne
      · next h2 =>
        rw [if_neg h2] at hne
        split at hy
        · rcases List.mem_cons.1 hy with rfl | hy
          · exact hc
          · exact word_notList r y hy
        · next h3 => rw [if_neg h3] at hne; exact absurd rfl hne
theorem xx_app {b post : Bs} : ∀ (t r : Bs), (∀ y ∈ t, inList y = false) → XX b post (t ++ r) = t ++ XX b post r
  | [], r, _ => rfl
  | y :: t, r, h => by
    rw [List.cons_append, xx_plain (h y (by simp)), xx_app t r fun z hz => h z (by simp [hz])]; rfl
theorem take_blanks : ∀ (pre l : Bs), (∀ c ∈ pre, isBlank c = true) → (pre ++ l).takeWhile isBlank = pre ++ l.takeWhile isBlank
  | [], l, _ => rfl
  | c :: pre, l, h => by
    rw [List.cons_append, List.takeWhile_cons, if_pos (h c (by simp)), take_blanks pre l fun z hz => h z (by simp [hz])]; rfl
theorem lex_none (n : Nat) (l : Bs) (at_ : Nat) (h : ∀ c ∈ l, isBlank c = true) : (lexL n l at_).map (·.1) = [[]] := by
  cases n with
  | zero => rfl
  | succ n =>
    have : l.takeWhile isBlank = l := by
      have := take_blanks l [] h
      simpa using this
    simp only [lexL, this, List.drop_length]
    rfl
/-- One step of the lexer, at a text of blanks and then c. -/
theorem lex_at (n : Nat) (pre : Bs) (c : UInt8) (r : Bs) (at_ : Nat) (hp : ∀ y ∈ pre, isBlank y = true) (hc : isBlank c = false) :
    lexL (n + 1) (pre ++ c :: r) at_ = if (scanL (c :: r) == [] || scanL (c :: r) == [63]) = true then [(scanL (c :: r), at_ + pre.length)] else (scanL (c :: r), at_ + pre.length) :: lexL n ((c :: r).drop (scanL (c :: r)).length) (at_ + pre.length + (scanL (c :: r)).length) := by
  have : (pre ++ c :: r).takeWhile isBlank = pre := by rw [take_blanks pre _ hp, List.takeWhile_cons, hc]; simp
  simp only [lexL, this, List.drop_left]
theorem split_blanks : ∀ l : Bs, (∀ c ∈ l, isBlank c = true) ∨ ∃ pre c r, l = pre ++ c :: r ∧ (∀ y ∈ pre, isBlank y = true) ∧ isBlank c = false
  | [] => .inl (by simp)
  | a :: l => by
    cases ha : isBlank a
    · exact .inr ⟨[], a, l, rfl, by simp, ha⟩
    · rcases split_blanks l with h | ⟨pre, c, r, e, h1, h2⟩
      · left; intro c hc; rcases List.mem_cons.1 hc with rfl | hc; exact ha; exact h c hc
      · exact .inr ⟨a :: pre, c, r, by rw [e]; rfl, fun y hy => by rcases List.mem_cons.1 hy with rfl | hy; exact ha; exact h1 y hy, h2⟩
theorem lexX {b post : Bs} (hb : BlankOK b) (hp : ∀ c ∈ post, isBlank c = true) : ∀ (k : Nat) (l : Bs), l.length < k → ∀ (n n' at_ at' : Nat) (pre : Bs), (∀ c ∈ pre, isBlank c = true) → l.length + 1 ≤ n → l.length + 1 ≤ n' →
    (lexL n' (pre ++ XX b post l) at').map (·.1) = (lexL n l at_).map (·.1)
  | 0, l, hk, _, _, _, _, _, _, _, _ => absurd hk (by omega)
  | k + 1, l, hk, n, n', at_, at', pre, hpre, hn, hn' => by
    rcases split_blanks l with h | ⟨bl, c, r, rfl, hbl, hc⟩
    · have e : XX b post l = l ++ post := by
        have := xx_app (b := b) (post := post) l [] fun y hy => blank_notList (h y hy)
        simpa [XX, blankL] using this
      rw [lex_none n l at_ h, lex_none n' _ at' (by
        rw [e]; intro c hc
        rcases List.mem_append.1 hc with hc | hc
        · exact hpre c hc
        · rcases List.mem_append.1 hc with hc | hc
          · exact h c hc
          · exact hp c hc)]
    · obtain ⟨n, rfl⟩ : ∃ m, n = m + 1 := ⟨n - 1, by omega⟩
      obtain ⟨n', rfl⟩ : ∃ m, n' = m + 1 := ⟨n' - 1, by omega⟩
      have e0 : XX b post (bl ++ c :: r) = bl ++ XX b post (c :: r) := xx_app bl _ fun y hy => blank_notList (hbl y hy)
      have hpb : ∀ y ∈ pre ++ bl, isBlank y = true := fun y hy => by
        rcases List.mem_append.1 hy with hy | hy
        · exact hpre y hy
        · exact hbl y hy
      rw [e0, ← List.append_assoc, lex_at n bl c r at_ hbl hc]
      simp only [List.length_append, List.length_cons] at hk hn hn'
      cases hcl : inList c
      · -- none of the list
        have hs := scanX hb hp c r hcl hc
        rw [xx_plain hcl] at hs ⊢
        rw [lex_at n' (pre ++ bl) c _ at' hpb hc, hs]
        by_cases hg : scanL (c :: r) = [] ∨ scanL (c :: r) = [63]
        · rw [if_pos (by simpa using hg), if_pos (by simpa using hg)]; rfl
        · rw [if_neg (by simpa using hg), if_neg (by simpa using hg)]
          have hpre' := scan_prefix (l := c :: r) (fun e => hg (.inr e))
          have hch := scan_chars c r hcl (fun e => hg (.inr e))
          have h1 : 1 ≤ (scanL (c :: r)).length := by
            cases h : scanL (c :: r) with
            | nil => exact absurd (.inl h) hg
            | cons a l => simp
          obtain ⟨r', hr'⟩ := hpre'
          generalize scanL (c :: r) = t at *
          have hd : (c :: r).drop t.length = r' := by rw [← hr']; simp
          have hd' : (c :: XX b post r).drop t.length = XX b post r' := by
            rw [← xx_plain hcl, ← hr', xx_app t r' hch]; simp
          have hlen : r'.length + t.length = r.length + 1 := by
            have := congrArg List.length hr'
            simp only [List.length_append, List.length_cons] at this
            omega
          rw [hd, hd']
          simp only [List.map_cons]
          have ih := lexX hb hp k r' (by omega) n n' (at_ + bl.length + t.length) (at' + (pre ++ bl).length + t.length) [] (by simp) (by omega) (by omega)
          rw [List.nil_append] at ih
          rw [ih]
      · -- one of the list
        have hs := scan_list c r hcl
        have hs' := scan_list c (b ++ XX b post r) hcl
        rw [xx_list hcl, ← List.append_assoc, lex_at n' (pre ++ bl ++ b) c _ at' (fun y hy => by
          rcases List.mem_append.1 hy with hy | hy
          · exact hpb y hy
          · exact hb.2 y hy) hc, hs, hs']
        have hne : ¬ (([c] : Bs) == [] || ([c] : Bs) == [63]) = true := by
          rcases inList_cases hcl with rfl | rfl | rfl | rfl | rfl | rfl | rfl <;> decide
        rw [if_neg hne, if_neg hne]
        simp only [List.map_cons, List.length_cons, List.length_nil, List.drop_succ_cons, List.drop_zero]
        have ih := lexX hb hp k r (by omega) n n' (at_ + bl.length + (0 + 1)) (at' + (pre ++ bl ++ b).length + (0 + 1)) b hb.2 (by omega) (by omega)
        rw [ih]
end Go.Proofs.Ytmjpecjciibngaa
namespace Go.Proofs.Ytmjpecjciibngaa
open Go.RowKit
set_option linter.unusedVariables false

def blankB (h : Nat) : Bs := ([[32], [9], [10, 32]] : List Bs).getD h []
theorem blankB_ok (h : Nat) (hh : h < 3) : BlankOK (blankB h) ∧ (blankB h).length ≤ 2 := by
  have : h = 0 ∨ h = 1 ∨ h = 2 := by omega
  rcases this with rfl | rfl | rfl <;> exact ⟨⟨by decide, by decide⟩, by decide⟩
theorem blankL_len (b : Bs) (hb : b.length ≤ 2) : ∀ l : Bs, (blankL b l).length ≤ 5 * l.length ∧ l.length ≤ (blankL b l).length
  | [] => by simp [blankL]
  | c :: l => by
    have ih := blankL_len b hb l
    have h1 : (blankS b c).length ≤ 5 ∧ 1 ≤ (blankS b c).length := by unfold blankS; split <;> simp <;> omega
    have e : blankL b (c :: l) = blankS b c ++ blankL b l := rfl
    rw [e]
    simp only [List.length_append, List.length_cons]
    omega
theorem blankL_snoc (b : Bs) (l : Bs) (c : UInt8) : blankL b (l ++ [c]) = blankL b l ++ blankS b c := by simp [blankL]
/-- With blanks it is the same formula. -/
theorem blank_ways (s : Bs) (hs : s.length ≤ 500) (h : Nat) (hh : h < 3) (h0 : (parseL s).2.2 = 0) : Fine (parseL s).1 ∧ (parseL (blankB h ++ blankL (blankB h) s ++ blankB h)).2.2 = 0 ∧ Fine (parseL (blankB h ++ blankL (blankB h) s ++ blankB h)).1 ∧
    sameT (parseL s).1 (parseL (blankB h ++ blankL (blankB h) s ++ blankB h)).1 = true ∧ printT (parseL (blankB h ++ blankL (blankB h) s ++ blankB h)).1 = printT (parseL s).1 := by
  obtain ⟨hb, hb2⟩ := blankB_ok h hh
  generalize blankB h = b at *
  obtain ⟨_, hA, hz⟩ := (parse_good s (by omega)).2 h0
  have hF := fine_of hA (by omega)
  have hl := blankL_len b hb2 s
  have hfull : (b ++ blankL b s ++ b).length = b.length + (blankL b s).length + b.length := by simp; omega
  have hlex : (lexFrom s 0).map (·.1) = (lexFrom (b ++ blankL b s ++ b) 0).map (·.1) := by
    have := lexX hb hb.2 (s.length + 1) s (by omega) (s.length + 1) ((b ++ blankL b s ++ b).length + 1) 0 0 b hb.2 (by omega) (by omega)
    unfold lexFrom
    rw [List.drop_zero, List.drop_zero, ← this, List.append_assoc]
  obtain ⟨h1, h2⟩ := parse_free s _ (by omega) (by omega) hlex h0
  obtain ⟨f1, f2, f3, _⟩ := fine_strip hF (by omega) h2
  exact ⟨hF, h1, f1, f2, f3⟩
/-- The signs of the list, one by one. -/
def listC : Bs := [33, 38, 94, 124, 40, 41, 44]
def ownTo (c : UInt8) (k : Nat) : Bool := (listC.take k).any fun y : UInt8 => c == y
theorem ownTo_all (c : UInt8) : ownTo c 7 = inList c := rfl
theorem ownTo_succ (c : UInt8) (k : Nat) (y : UInt8) (h : listC[k]? = some y) : ownTo c (k + 1) = (ownTo c k || (c == y)) := by
  unfold ownTo
  rw [List.take_add_one, h]
  simp [List.any_append]
end Go.Proofs.Ytmjpecjciibngaa
