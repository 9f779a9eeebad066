/- Is. -/
import Derived.Test.YtmjpecjciibngaaIs1
import Derived.Test.YtmjpecjciibngaaRd8
import Derived.Laws.AppendOwnNone
import Derived.Deep.DeepCutAuto
namespace Go.Proofs.Ytmjpecjciibngaa
open Go.RowKit
set_option linter.unusedVariables false

def Tree.kids : Tree → List Tree | .node _ _ _ ks => ks
def plainT : Tree → Bool | .node k _ v ks => plainB k v ks.length
/-- The stack of formulas that are still to be looked at, the next one last. -/
def isGo : Nat → List Tree → Bool
  | 0, l => l.isEmpty
  | r + 1, l => match l.getLast? with
    | none => true
    | some t => plainT t && isGo r (l.dropLast ++ t.kids)
def isT (t : Tree) : Bool := isGo 4000 [t]
theorem isGo_nil (r : Nat) : isGo r [] = true := by cases r <;> rfl
theorem isGo_zero (l : List Tree) (t : Tree) : isGo 0 (l ++ [t]) = false := by simp [isGo]
theorem isGo_snoc (r : Nat) (l : List Tree) (t : Tree) : isGo (r + 1) (l ++ [t]) = (plainT t && isGo r (l ++ t.kids)) := by simp [isGo]

theorem nil_or_snoc {α : Type} (l : List α) : l = [] ∨ ∃ l' t, l = l' ++ [t] := by
  rcases List.eq_nil_or_concat l with h | ⟨a, b, h⟩
  · exact .inl h
  · exact .inr ⟨a, b, by rw [h]; simp⟩
theorem KidsX.split {ok : Nat → Prop} {w : World} {t : Tree} : ∀ (ts : List Tree) (xs : List Value), KidsX ok w (ts ++ [t]) xs → ∃ ys k a v A n c, xs = ys ++ [.int .i64 k, .int .i64 a, .int .i64 v, .slice A n c] ∧ KidsX ok w ts ys ∧ ExprV ok w t (.agg #[.int .i64 k, .int .i64 a, .int .i64 v, .slice A n c])
  | [], xs, ⟨k, a, v, A, n, c, rest, e, hE, hr⟩ => by
    obtain rfl : rest = [] := hr
    exact ⟨[], k, a, v, A, n, c, e, rfl, hE⟩
  | u :: ts, xs, ⟨k, a, v, A, n, c, rest, e, hE, hr⟩ => by
    obtain ⟨ys, k', a', v', A', n', c', e', hX, hE'⟩ := KidsX.split ts rest hr
    subst e'
    exact ⟨_, k', a', v', A', n', c', by rw [e]; simp, ⟨k, a, v, A, n, c, ys, rfl, hE, hX⟩, hE'⟩
theorem KidsX.append {ok : Nat → Prop} {w : World} : ∀ (ts us : List Tree) (xs ys : List Value), KidsX ok w ts xs → KidsX ok w us ys → KidsX ok w (ts ++ us) (xs ++ ys)
  | [], us, xs, ys, hx, hy => by
    obtain rfl : xs = [] := hx
    exact hy
  | t :: ts, us, xs, ys, ⟨k, a, v, A, n, c, rest, e, hE, hr⟩, hy => ⟨k, a, v, A, n, c, rest ++ ys, by rw [e]; rfl, hE, KidsX.append ts us rest ys hr hy⟩
/-- The kids of a formula as cells. -/
theorem KidsV.toX {ok : Nat → Prop} {w : World} : ∀ (ts : List Tree) (A : Option Addr) (i : Nat), KidsV ok w ts A i → ∃ xs, KidsX ok w ts xs ∧ (ts ≠ [] → ∃ ad, A = some ad ∧ ok ad.block ∧ ∀ j u, xs[j]? = some u → w.cell? (ad.add (i * 4 + j)) = some u)
  | [], A, i, _ => ⟨[], rfl, fun h => absurd rfl h⟩
  | t :: ts, A, i, h => by
    unfold KidsV at h
    obtain ⟨⟨ad, c0, c1, c2, c3, e, hb, h0, h1, h2, h3, hE⟩, hr⟩ := h
    obtain ⟨k, a, v, A', n, c, e4⟩ := hE.four
    injection e4 with e4
    simp only [Array.mk.injEq, List.cons.injEq, and_true] at e4
    obtain ⟨rfl, rfl, rfl, rfl⟩ := e4
    obtain ⟨xs, hX, hc⟩ := KidsV.toX ts A (i + 1) hr
    refine ⟨_, ⟨k, a, v, A', n, c, xs, rfl, hE, hX⟩, fun _ => ⟨ad, e, hb, fun j u hj => ?_⟩⟩
    match j, hj with
    | 0, hj => cases hj; exact h0
    | 1, hj => cases hj; exact h1
    | 2, hj => cases hj; exact h2
    | 3, hj => cases hj; exact h3
    | j + 4, hj =>
      have hj' : xs[j]? = some u := hj
      have hts : ts ≠ [] := by
        rintro rfl
        obtain rfl : xs = [] := hX
        simp at hj'
      obtain ⟨ad', e', _, hc'⟩ := hc hts
      rw [e] at e'; cases e'
      have := hc' j u hj'
      rwa [show (i + 1) * 4 + j = i * 4 + (j + 4) by omega] at this

theorem add0 (g j : Nat) : (⟨g, 0, none⟩ : Addr).add j = ⟨g, j, none⟩ := by unfold Addr.add; split <;> simp_all
theorem ExprV.plain {ok : Nat → Prop} {w : World} {t : Tree} {k a v : Int} {A : Option Addr} {n c : Nat} (h : ExprV ok w t (.agg #[.int .i64 k, .int .i64 a, .int .i64 v, .slice A n c])) :
    plainT t = plainB k v n ∧ n = t.kids.length ∧ KidsV ok w t.kids A 0 := by
  cases t
  unfold ExprV at h
  obtain ⟨A', c', e, hk⟩ := h
  injection e with e
  simp only [Array.mk.injEq, List.cons.injEq, Value.int.injEq, Value.slice.injEq, and_true, true_and] at e
  obtain ⟨rfl, rfl, rfl, rfl, rfl, rfl⟩ := e
  exact ⟨rfl, rfl, hk⟩
theorem plainB_le {k v : Int} {n : Nat} (h : plainB k v n = true) : n ≤ 3 := by
  have := kidsOf_le k
  unfold plainB at h
  simp only [decide_eq_true_eq] at h
  omega

mutual
/-- No formula within has more than three parts. -/
def smallT : Tree → Bool | .node _ _ _ ks => decide (ks.length ≤ 3) && smallL ks
def smallL : List Tree → Bool | [] => true | t :: ts => smallT t && smallL ts
end
theorem smallL_mem : ∀ (l : List Tree), smallL l = true → ∀ t ∈ l, smallT t = true
  | [], _, t, h => absurd h (by simp)
  | u :: us, h, t, hm => by
    unfold smallL at h
    simp only [Bool.and_eq_true] at h
    rcases List.mem_cons.1 hm with rfl | hm
    · exact h.1
    · exact smallL_mem us h.2 t hm
theorem small_kids {t : Tree} (h : smallT t = true) : t.kids.length ≤ 3 ∧ ∀ u ∈ t.kids, smallT u = true := by
  cases t
  unfold smallT at h
  simp only [Bool.and_eq_true, decide_eq_true_eq] at h
  exact ⟨h.1, smallL_mem _ h.2⟩

section
variable {w : World} {base : Nat} {e : TypeId} {size : Nat} {n : Nat} {xs ys : List Value} {g cap : Nat}
theorem own_cap (h : w.ownsRow base e size (.slice (some ⟨g, 0, none⟩) n cap) n xs) : n ≤ cap ∧ cap ≤ maxLen := by
  rcases h.2 with ⟨e, _⟩ | ⟨g', cap', cur, e, _, _, h1, h2, _⟩
  · cases e
  · cases e; exact ⟨h1, h2⟩
theorem own_cut {m : Nat} (h : w.ownsRow base e size (.slice (some ⟨g, 0, none⟩) n cap) n (xs ++ ys)) (hm : m ≤ n) (hx : xs.length = m * size) : w.ownsRow base e size (.slice (some ⟨g, 0, none⟩) m cap) m xs := by
  rcases h.2 with ⟨e, _⟩ | ⟨g', cap', cur, e, hb, hc, h1, h2, h3, h4⟩
  · cases e
  · cases e
    refine ⟨hx, .inr ⟨g, cap, cur, rfl, hb, hc, by omega, h2, h3, ?_⟩⟩
    have := congrArg (List.take (m * size)) h4
    rw [List.take_take, Nat.min_eq_left (Nat.mul_le_mul_right _ hm), List.take_left' hx] at this
    exact this
end
theorem run_append_nil {P : Program} {w : World} (base : Nat) (t ty e : TypeId) (i : TypeInfo) (size : Nat) (ht : P.underlying t = some (.slice e)) (hi : P.info? e = some i)
    (v : Value) (n : Nat) (xs : List Value) (c : Nat) (hown : w.ownsRow base e size v n xs) :
    (Builtin.append_ #[t, t] ty #[v, .slice none 0 c]).run P w = .ok v w := by
  rcases hown.2 with ⟨rfl, rfl⟩ | ⟨g, cap, cur, rfl, _, _, hnc, _⟩
  · simp [Builtin.append_, run_underlying ht, sizeOf, typeInfo, hi, Builtin.lenOf, Builtin.firstCells]
  · simp [Builtin.append_, run_underlying ht, sizeOf, typeInfo, hi, Builtin.lenOf, Builtin.firstCells, hnc, storeCells]
/-- append(s, x...) where s is the call's own and x is a list that lies in memory, or nil. -/
theorem wpList_append_any {P : Program} {w : World} {ops : Array Oper} {rest : List Oper} {o : Oper} {a : Act} {Q : Exit → Act → World → Prop} (hgd : o.guard = none) (s x : Operand) (t : TypeId)
    (ho : o.op = .call { callee := .builtin .append, args := #[s, x], argTypes := #[t, t] })
    (base : Nat) (e : TypeId) (i : TypeInfo) (z : Value) (size bytes : Nat) (ht : P.underlying t = some (.slice e)) (hi : P.info? e = some i) (hz : i.zero = some z)
    (hsize : i.size = size) (hby : i.bytes = bytes) (hzs : z.cells.size = size) (hsz : 0 < size)
    (v : Value) (n : Nat) (xs : List Value) (hs : a.eval s = v) (hown : w.ownsRow base e size v n xs)
    (A : Option Addr) (m c : Nat) (news : List Value) (hx : a.eval x = .slice A m c) (hl : news.length = m * size) (hA : A = none → m = 0) (hnews : ∀ ad, A = some ad → ∀ j u, news[j]? = some u → w.cell? (ad.add j) = some u) (h1 : ∀ u ∈ news, u.oneCell' = true)
    (h63 : n + m ≤ maxLen) (hbytes : (n + m) * bytes ≤ 140737488355328) (hbase : base ≤ w.heap.size)
    (h : ∀ v' w', w'.ownsRow base e size v' (n + m) (xs ++ news) → w.grownBy w' v.ownBlock → (v'.ownBlock = v.ownBlock ∨ v'.ownBlock = some w.heap.size) → wpList P ops Q rest (a.put o.dst v') w') :
    wpList P ops Q (o :: rest) a w := by
  cases A with
  | some ad => exact wpList_append_own_at _ hgd s x t ho base e i z size bytes ht hi hz hsize hby hzs hsz v n xs hs hown ad m c news hx hl (hnews ad rfl) h1 h63 hbytes hbase fun v' w' h1 h2 _ h4 => h v' w' h1 h2 h4
  | none =>
    obtain rfl := hA rfl
    obtain rfl : news = [] := by simpa using hl
    refine wpList_plain hgd fun K hK => ?_
    have hrun := run_append_nil (P := P) (w := w) base t o.type e i size ht hi v n xs c hown
    unfold Oper.wp
    simp [execOp, ho, resolve, invoke, builtin, hs, hx, hrun, Result.andThen]
    exact hK _ _ (h v w (by simpa using hown) ⟨rfl, rfl, rfl, Nat.le_refl _, fun _ _ _ => rfl⟩ (.inl rfl))
theorem KidsX.one {ok : Nat → Prop} {w : World} : ∀ (ts : List Tree) (xs : List Value), KidsX ok w ts xs → ∀ u ∈ xs, u.oneCell' = true
  | [], xs, hx => by
    obtain rfl : xs = [] := hx
    simp
  | t :: ts, xs, ⟨k, a, v, A, n, c, rest, e, hE, hr⟩ => by
    subst e
    intro u hu
    simp only [List.mem_cons] at hu
    rcases hu with rfl | rfl | rfl | rfl | hu
    · rfl
    · rfl
    · rfl
    · rfl
    · exact KidsX.one ts rest hr u hu

set_option maxRecDepth 100000 in
set_option maxHeartbeats 4000000 in
theorem is_any (t : Tree) (x : Value) (w : World) (hsm : smallT t = true) (hE : ExprV (fun g => g < w.heap.size) w t x) :
    Calls Try.prog 15 #[x] w fun e w' => e = .returned (.bool (isT t)) ∧ Below w.heap.size w w' := by
  obtain ⟨i0, hi0, hz0, hz1, hz2⟩ := info_parts exprInfo
  have hi0' := Lib.hid hi0; have hz0' := Lib.hid hz0; have hz1' := Lib.hid hz1; have hz2' := Lib.hid hz2
  clear hi0 hz0 hz1 hz2
  obtain ⟨xk, xa, xv, xA, xn, xc, rfl⟩ := hE.four
  have HE := Lib.hid hE; clear hE
  go_enter Try.func15, Try.ntmps15
  go_wp2_with fail
  go_loopw [3, 4] (fun sv i wr => ∃ (n : Nat) (l : List Tree) (xs : List Value), n ≤ 4000 ∧ i = .int .i64 n ∧ l.length ≤ 1 + 3 * n ∧ (∀ u ∈ l, smallT u = true) ∧ wr.ownsRow w.heap.size 36 4 sv l.length xs ∧ KidsX (fun g => g < w.heap.size) wr l xs ∧ Below w.heap.size w wr ∧ isGo (4000 - n) l = isT t) (fun _ i _ => 4001 - (intOf i).toNat)
  case atStart =>
    refine ⟨0, [t], [.int .i64 xk, .int .i64 xa, .int .i64 xv, .slice xA xn xc], by omega, rfl, by simp, by simpa using hsm, ?_, ⟨xk, xa, xv, xA, xn, xc, [], rfl, ?_, rfl⟩, below2 _ _ _, rfl⟩
    · have := World.ownsRow_lit (base := w.heap.size) (e := 36) (size := 4) (w.alloc (.cells #[.int .i64 xk, .int .i64 xa, .int .i64 xv, .slice xA xn xc] 36)) #[.int .i64 xk, .int .i64 xa, .int .i64 xv, .slice xA xn xc] 1 (by simp) (by unfold maxLen; omega) rfl
      simpa using this
    · exact (HE.out.alloc _).alloc _
  case round =>
    obtain ⟨n, l, xs, hn, rfl, hl, hsl, hown, hX, hb, hgo⟩ := hrel
    obtain ⟨sv, rfl⟩ : ∃ v : Value, v = u3 := ⟨_, rfl⟩
    rcases nil_or_snoc l with rfl | ⟨l', t', rfl⟩
    · have hgo' : isT t = true := by rw [← hgo, isGo_nil]
      have HGo := Lib.hid hgo'
      have hsv : ∃ A c, sv = .slice A 0 c := by
        rcases hown.2 with ⟨e, _⟩ | ⟨g, cap, cur, e, _⟩
        · exact ⟨_, _, e⟩
        · exact ⟨_, _, e⟩
      obtain ⟨A, c, rfl⟩ := hsv
      clear hgo hgo' hown hX
      go_wp2_with fail
      go_ret
      exact ⟨ret_bool HGo.out.symm, hb⟩
    · have hlen : (l' ++ [t']).length = l'.length + 1 := by simp
      rw [hlen] at hown hl
      obtain ⟨ys, yk, ya, yv, yA, yn, yc, hxs, hX', hE'⟩ := KidsX.split l' xs hX
      have hlx := KidsX.len l' ys hX'
      obtain ⟨g, cap, hsv, hgb, hglt⟩ := hown.form (by omega)
      subst hsv
      have hcell := hown.cells (g := g) rfl
      rw [hxs] at hcell
      have q0 : wr.cell? ⟨g, l'.length * 4, none⟩ = some (.int .i64 yk) := by have := hcell (l'.length * 4) (.int .i64 yk) (by rw [List.getElem?_append_right (by omega)]; simp [hlx]); rwa [add0] at this
      have q1 : wr.cell? ⟨g, l'.length * 4 + 1, none⟩ = some (.int .i64 ya) := by have := hcell (l'.length * 4 + 1) (.int .i64 ya) (by rw [List.getElem?_append_right (by omega)]; simp [hlx]); rwa [add0] at this
      have q2 : wr.cell? ⟨g, l'.length * 4 + 2, none⟩ = some (.int .i64 yv) := by have := hcell (l'.length * 4 + 2) (.int .i64 yv) (by rw [List.getElem?_append_right (by omega)]; simp [hlx]); rwa [add0] at this
      have q3 : wr.cell? ⟨g, l'.length * 4 + 3, none⟩ = some (.slice yA yn yc) := by have := hcell (l'.length * 4 + 3) (.slice yA yn yc) (by rw [List.getElem?_append_right (by omega)]; simp [hlx]); rwa [add0] at this
      have hst' : smallT t' = true := hsl t' (by simp)
      obtain ⟨hk3, hsk⟩ := small_kids hst'
      have hsl2 : ∀ u ∈ l' ++ t'.kids, smallT u = true := by
        intro u hu
        rcases List.mem_append.1 hu with hu | hu
        · exact hsl u (by simp [hu])
        · exact hsk u hu
      obtain ⟨hc1, hc2⟩ := own_cap hown
      have HO := Lib.hid (own_cut (m := l'.length) (by rw [hxs] at hown; exact hown) (by omega) hlx)
      generalize hm : l'.length = m at *
      have HX' := Lib.hid hX'; have HE' := Lib.hid hE'; have HSl := Lib.hid hsl2; have HGo := Lib.hid hgo
      have Hlx := Lib.hid hlx; have Hxs := Lib.hid hxs; have Hm := Lib.hid hm
      clear hX' hE' hown hgo hlx hxs hm hcell hX hlen hsl hst' hsk hsl2
      have hci : (m : Int) ≤ (cap : Int) := by omega
      have hci2 : m ≤ cap := by omega
      have hci3 : ¬ cap < m := by omega
      have hm0 : (0 : Int) ≤ (m : Int) := by omega
      obtain ⟨hpl, hkn, hkv⟩ := HE'.out.plain
      have hbg := hb.size
      by_cases hn4 : n = 4000
      · subst hn4
        have hfalse : isT t = false := by rw [← HGo.out]; exact isGo_zero _ _
        have HF := Lib.hid hfalse
        clear hfalse hpl hkn hkv
        go_wp2_with fail
        go_ret
        exact ⟨ret_bool HF.out.symm, hb.alloc (by omega) _⟩
      · have hn5 : n < 4000 := by omega
        have hgo1 : isT t = (plainT t' && isGo (4000 - (n + 1)) (l' ++ t'.kids)) := by
          rw [← HGo.out, show 4000 - n = 4000 - (n + 1) + 1 by omega, isGo_snoc]
        have hd4 : decide ((4000 : Int) ≤ (n : Int)) = false := by simp; omega
        have HGo1 := Lib.hid hgo1; have HPl := Lib.hid hpl; have HKn := Lib.hid hkn; have HKv := Lib.hid hkv
        clear hgo1 hpl hkn hkv hn4 HGo
        go_wp2_with fail
        refine (plain_any yk ya yv yA yn yc _ (by have := HKn.out; omega)).mono ?_
        rintro e w1 ⟨rfl, hB1⟩
        have hO1 := (HO.out.alloc (.cells #[.int .i64 yk, .int .i64 ya, .int .i64 yv, .slice yA yn yc] 36)).kept (grown_below hB1 none) (.inr (by simp [Value.ownBlock]))
        have hX1 := KidsX.imp (w' := w1) (fun t x h => (ExprV.alloc h _).keep hB1) _ _ HX'.out
        obtain ⟨zs, hXz, hzc⟩ := KidsV.toX _ _ _ HKv.out
        have hz1 := KidsX.imp (w' := w1) (fun t x h => (ExprV.alloc h (.cells #[.int .i64 yk, .int .i64 ya, .int .i64 yv, .slice yA yn yc] 36)).keep hB1) _ _ hXz
        have hzl := KidsX.len _ _ hXz
        have hBB : Below w.heap.size w w1 := (hb.alloc (by omega) _).trans (hB1.mono (by simp; omega))
        have hT := Blk.keep (Blk.new wr 36 #[.int .i64 yk, .int .i64 ya, .int .i64 yv, .slice yA yn yc]) hB1
        have r0 := hT.cell 0
        have r1 := hT.cell 1
        have r2 := hT.cell 2
        have r3 := hT.cell 3
        have hsz := hB1.size
        simp only [World.size_alloc] at hsz
        have hkz : t'.kids = [] ↔ yn = 0 := by rw [HKn.out]; exact List.length_eq_zero_iff.symm
        have hzc1 : ∀ ad, yA = some ad → ∀ j u, zs[j]? = some u → w1.cell? (ad.add j) = some u := by
          intro ad had j u hj
          by_cases hke : t'.kids = []
          · rw [hke] at hXz
            obtain rfl : zs = [] := hXz
            simp at hj
          · obtain ⟨ad', e', _, hc⟩ := hzc hke
            rw [had] at e'; cases e'
            have := hc j u hj
            have hlt := World.block_lt_of_cell? _ _ this
            simp only [Nat.zero_mul, Nat.zero_add] at this hlt
            exact (hB1.cell (by simp; omega)).trans ((Below.cell (below1 wr _) hlt).trans this)
        have hzn : yA = none → yn = 0 := by
          intro hA
          by_cases hke : t'.kids = []
          · exact hkz.1 hke
          · obtain ⟨ad', e', _⟩ := hzc hke
            rw [hA] at e'; cases e'
        have HO1 := Lib.hid hO1; have HX1 := Lib.hid hX1; have HZ1 := Lib.hid hz1; have HZl := Lib.hid hzl; have HZc := Lib.hid hzc1; have HZn := Lib.hid hzn
        have HZo := Lib.hid (KidsX.one _ _ hXz)
        clear hO1 hX1 hXz hzc hz1 hzl hT hkz hzc1 hzn hB1 HX' HO q0 q1 q2 q3
        by_cases hpb : plainB yk yv yn = true
        · rw [hpb]
          have hgo2 : isGo (4000 - (n + 1)) (l' ++ t'.kids) = isT t := by rw [HGo1.out, HPl.out, hpb]; rfl
          have HGo2 := Lib.hid hgo2; clear hgo2 hpb
          go_wp2_with (at_builtin; refine wpList_append_any rfl (.tmp 31) (.tmp 33) _ rfl w.heap.size 36 i0 (.agg zeroExpr) 4 48 Try.underlying34 hi0'.out hz0'.out hz1'.out hz2'.out rfl (by omega) _ m ys rfl HO1.out yA yn yc zs rfl (by rw [HZl.out, HKn.out]) HZn.out HZc.out HZo.out (by have := HKn.out; unfold maxLen; omega) (by have := HKn.out; omega) (by omega) ?_; intro v' w4 hO4 hgr4 hat)
          have hll : (l' ++ t'.kids).length = m + yn := by rw [List.length_append, Hm.out, HKn.out]
          have hO5 : w4.ownsRow w.heap.size 36 4 v' (l' ++ t'.kids).length (ys ++ zs) := by rw [hll]; exact hO4
          have hX5 := KidsX.imp (ok' := fun g => g < w.heap.size) (w' := w4) (fun t x h => ExprV.grown h hgr4 (by intro g' hg' hk; have hk' : g' < w.heap.size := hk; have he : g = g' := Option.some.inj hg'; omega)) _ _ (KidsX.append _ _ _ _ HX1.out HZ1.out)
          have hB5 : Below w.heap.size w w4 := hBB.trans ⟨hgr4.os, hgr4.tape, hgr4.output, by have := hgr4.size; omega, fun i hi => hgr4.block i (by omega) (fun he => by have he' : i = g := Option.some.inj he; omega)⟩
          have hyn3 : yn ≤ 3 := by rw [HKn.out]; exact hk3
          have hm2 : (l' ++ t'.kids).length ≤ 1 + 3 * (n + 1) := by omega
          have HO5 := Lib.hid hO5; have HX5 := Lib.hid hX5; have HM2 := Lib.hid hm2
          clear hO5 hX5 hO4 hll hm2
          go_roundw
          case rel =>
            exact ⟨n + 1, l' ++ t'.kids, ys ++ zs, by omega, by go_num, HM2.out, HSl.out, HO5.out, HX5.out, hB5, HGo2.out⟩
          case measure => simp [intOf]; omega
        · have hpf : plainB yk yv yn = false := by simpa using hpb
          rw [hpf]
          have hfalse : isT t = false := by rw [HGo1.out, HPl.out, hpf]; rfl
          have HF := Lib.hid hfalse
          clear hfalse hpf hpb
          go_wp2_with fail
          go_ret
          exact ⟨ret_bool HF.out.symm, hBB⟩
end Go.Proofs.Ytmjpecjciibngaa
