/- Parse: every text is read as the pure reader reads it. -/
import Derived.Test.YtmjpecjciibngaaRd9
namespace Go.Proofs.Ytmjpecjciibngaa
open Go.RowKit
set_option linter.unusedVariables false

theorem bound_calm {un : Rd} {d : Nat} (h : Calm un (d + 1)) (k a : Int) : Calm (boundP un k a) d := by
  intro p hp
  unfold boundP
  simp only
  split
  · have := within_calm h p.goes hp
    exact ⟨this.1, Nat.le_trans this.2 (goes_len p)⟩
  · have := bad_calm p 230
    exact ⟨this.1.trans hp, by rw [this.2]; exact Nat.le_refl _⟩
theorem ite_calm {iff_ : Rd} {d : Nat} (h : Calm iff_ (d + 1)) (a : Int) : Calm (iteP iff_ a) d := by
  intro p hp
  rw [iteP_eq]
  have h1 := itK_calm h p hp 3
  have h2 := must_calm (itK iff_ p 3).2 [41]
  exact ⟨h2.1.trans h1.1, Nat.le_trans h2.2 h1.2⟩
theorem prim_calm {iff_ : Rd} {d : Nat} (h : Calm iff_ (d + 1)) : Calm (primP iff_) d := by
  intro p hp
  unfold primP
  simp only
  split
  · exact ⟨hp, goes_len p⟩
  · split
    · exact ⟨hp, goes_len p⟩
    · have hm := may_calm p [40]
      split
      · have h1 := within_calm h (p.may [40]).2 (hm.1.trans hp)
        have h2 := must_calm (within iff_ (p.may [40]).2).2 [41]
        exact ⟨h2.1.trans h1.1, by simp only; omega⟩
      · have hm2 := may_calm (p.may [40]).2 [105, 116, 101]
        split
        · have h1 := ite_calm h p.hd.2 ((p.may [40]).2.may [105, 116, 101]).2 (hm2.1.trans (hm.1.trans hp))
          exact ⟨h1.1, by omega⟩
        · have h1 := bad_calm ((p.may [40]).2.may [105, 116, 101]).2 230
          exact ⟨h1.1.trans (hm2.1.trans (hm.1.trans hp)), by rw [h1.2]; omega⟩
theorem un_calm {un iff_ : Rd} {d : Nat} (h : Calm un (d + 1)) (h' : Calm iff_ (d + 1)) : Calm (unP un iff_) d := by
  intro p hp
  unfold unP
  simp only
  split
  · exact ⟨hp, Nat.le_refl _⟩
  · have hm := may_calm p [33]
    split
    · have h1 := within_calm h (p.may [33]).2 (hm.1.trans hp)
      exact ⟨h1.1, by simp only; omega⟩
    · have hm2 := may_calm (p.may [33]).2 [97, 108, 108]
      split
      · have h1 := bound_calm h 10 p.at_ ((p.may [33]).2.may [97, 108, 108]).2 (hm2.1.trans (hm.1.trans hp))
        exact ⟨h1.1, by omega⟩
      · have hm3 := may_calm ((p.may [33]).2.may [97, 108, 108]).2 [97, 110, 121]
        split
        · have h1 := bound_calm h 11 p.at_ (((p.may [33]).2.may [97, 108, 108]).2.may [97, 110, 121]).2 (hm3.1.trans (hm2.1.trans (hm.1.trans hp)))
          exact ⟨h1.1, by omega⟩
        · have h1 := prim_calm h' (((p.may [33]).2.may [97, 108, 108]).2.may [97, 110, 121]).2 (hm3.1.trans (hm2.1.trans (hm.1.trans hp)))
          exact ⟨h1.1, by omega⟩
theorem imp_calm {un imp : Rd} {d : Nat} (h : Calm un d) (h' : Calm imp (d + 1)) : Calm (impP un imp) d := by
  intro p hp
  have ho : Calm (orP un) d := chain_calm (chain_calm (chain_calm h _ _) _ _) _ _
  have h1 := ho p hp
  unfold impP
  simp only
  have hm := may_calm (orP un p).2 [45, 62]
  split
  · have h2 := within_calm h' ((orP un p).2.may [45, 62]).2 (hm.1.trans h1.1)
    exact ⟨h2.1, by simp only; omega⟩
  · exact ⟨hm.1.trans h1.1, by simp only; omega⟩
theorem lev_calm : ∀ (n d : Nat), Calm (lev n).un d ∧ Calm (lev n).imp d ∧ Calm (lev n).iff_ d
  | 0, d => ⟨fun p hp => ⟨hp, Nat.le_refl _⟩, fun p hp => ⟨hp, Nat.le_refl _⟩, fun p hp => ⟨hp, Nat.le_refl _⟩⟩
  | n + 1, d => by
    have ih := lev_calm n (d + 1)
    have h1 : Calm (lev (n + 1)).un d := un_calm ih.1 ih.2.2
    have h2 : Calm (lev (n + 1)).imp d := imp_calm h1 ih.2.1
    exact ⟨h1, h2, chain_calm h2 _ _⟩

theorem next_does (L : Lev) (s : Bs) (hs : s.length ≤ 4000) (d : Nat) (hd : d ≤ 30) (hu : d < 30 → Does 87 L.un s (d + 1)) (hi : d < 30 → Does 44 L.imp s (d + 1)) (hf : d < 30 → Does 31 L.iff_ s (d + 1))
    (cu : Calm L.un (d + 1)) (ci : Calm L.imp (d + 1)) (cf : Calm L.iff_ (d + 1)) :
    Does 87 L.next.un s d ∧ Does 44 L.next.imp s d ∧ Does 31 L.next.iff_ s d := by
  have h1 : Does 87 (unP L.un L.iff_) s d := un_any _ _ s hs d hd hu cu (prim_any _ s hs d hd hf cf)
  have c1 : Calm (unP L.un L.iff_) d := un_calm cu cf
  have h2 : Does 44 (impP (unP L.un L.iff_) L.imp) s d := imp_any _ _ s hs d hd h1 c1 hi ci
  exact ⟨h1, h2, iff_any _ s hs d h2 (imp_calm c1 ci)⟩
theorem lev_does (s : Bs) (hs : s.length ≤ 4000) : ∀ n, n < 31 → Does 87 (lev (n + 1)).un s (30 - n) ∧ Does 44 (lev (n + 1)).imp s (30 - n) ∧ Does 31 (lev (n + 1)).iff_ s (30 - n) := by
  intro n
  induction n with
  | zero =>
    intro _
    have c0 := lev_calm 0 31
    exact next_does (lev 0) s hs 30 (by omega) (fun h => absurd h (by omega)) (fun h => absurd h (by omega)) (fun h => absurd h (by omega)) c0.1 c0.2.1 c0.2.2
  | succ n ih =>
    intro hn
    have ih := ih (by omega)
    have e : 30 - n = 30 - (n + 1) + 1 := by omega
    rw [e] at ih
    have c0 := lev_calm (n + 1) (30 - (n + 1) + 1)
    exact next_does (lev (n + 1)) s hs (30 - (n + 1)) (by omega) (fun _ => ih.1) (fun _ => ih.2.1) (fun _ => ih.2.2) c0.1 c0.2.1 c0.2.2

theorem results_cell2 {fn : Func} {p t u : Tmp} {ty : TypeId} (h : fn.results = #[.cell p ty, .tmp t, .tmp u]) (tmps : Array Value) (P : Program) (w : World) (g : Nat) (cs : Array Value)
    (hp : tmps.getD p undef = .pointer (some ⟨g, 0, none⟩)) (hl : (loadVar ty ⟨g, 0, none⟩).run P w = .ok (.agg cs) w) :
    (results fn tmps).run P w = .ok (.tuple #[.agg cs, tmps.getD t undef, tmps.getD u undef]) w := by
  have hp' : tmps[p]?.getD undef = .pointer (some ⟨g, 0, none⟩) := by simpa using hp
  simp [results, h, hp', asAddr, hl]

theorem ret_parse {fn : Func} {R : Ending → World → Prop} {a : Act} {w : World} {p t u : Tmp} {x y : Value} (hr : fn.results = #[.cell p 36, .tmp t, .tmp u]) (g : Nat) (c0 c1 c2 c3 : Value)
    (hp : a.tmps.getD p undef = .pointer (some ⟨g, 0, none⟩)) (ht : a.tmps.getD t undef = x) (hu : a.tmps.getD u undef = y) (hd : a.defers = []) (hg : Blk w g 36 #[c0, c1, c2, c3]) (hR : R (.returned (.tuple #[.agg #[c0, c1, c2, c3], x, y])) w) : bodyPost Try.prog fn R .ret a w := by
  subst ht hu
  exact bodyPost_ret (results_cell2 hr _ _ _ g #[c0, c1, c2, c3] hp (run_loadVar_row _ g 36 36 #[c0, c1, c2, c3] (0, 0) _ hg Try.underlying36 rfl (by kernel_rfl))) hd hR

/-- What Parse must answer. -/
def ParseSays (s : Bs) (w : World) (e' : Ending) (w' : World) : Prop :=
  ∃ x, e' = .returned (.tuple #[x, .int .i64 ((parseL s).2.1 : Int), .int .i64 ((parseL s).2.2 : Int)]) ∧ ExprV (fun g => w.heap.size ≤ g) w' (parseL s).1 x ∧ Below w.heap.size w w'

set_option maxRecDepth 100000 in
set_option maxHeartbeats 4000000 in
theorem parse_any (s : Bs) (w : World) (hlen : s.length ≤ 140737488351232) : Calls Try.prog 13 #[.string (str s)] w (ParseSays s w) := by
  have hz : (str s).size = s.length := size_str s
  by_cases hl : 4000 < s.length
  · have hF : parseL s = (.zero, 0, 232) := by unfold parseL; rw [if_pos hl]
    have HF := Lib.hid hF
    clear hF
    go_enter Try.func13, Try.ntmps13
    go_wp2_with fail
    refine ret_parse rfl w.heap.size _ _ _ _ rfl rfl rfl rfl (Blk.new _ _ _) ?_
    unfold ParseSays
    rw [HF.out]
    exact ⟨_, rfl, ExprV.zero _ _, below1 _ _⟩
  · have hs : s.length ≤ 4000 := by omega
    have hF : parseL s = (let r := (lev 31).iff_ { toks := lexFrom s 0, depth := 0, e := 0, eat := 0 }
      let p := if r.2.e = 0 ∧ r.2.hd.1 ≠ [] then r.2.bad 230 else r.2
      if p.e ≠ 0 then (.zero, p.eat, p.e) else (r.1, 0, 0)) := by unfold parseL; rw [if_neg hl]
    have hD : Does 31 (lev 31).iff_ s 0 := (lev_does s hs 30 (by omega)).2.2
    generalize (lev 31).iff_ = R at hF hD
    have HF := Lib.hid hF
    have HD := Lib.hid hD
    clear hF hl hD
    go_enter Try.func13, Try.ntmps13
    go_wp2_with fail
    have hB0 : Blk ((w.alloc (.cells zeroExpr 36)).alloc (.cells (pcells s [] 0 0 0 0) 62)) (w.heap.size + 1) 62 (pcells s [] 0 0 0 0) := Blk.new1 w _ _ _
    refine (goes_raw (w.heap.size + 1) s [] 0 0 0 0 _ hs (by simp) hB0).mono ?_
    rintro e w1 ⟨rfl, hgr, hB1⟩
    have hsz1 := hgr.size
    simp only [World.size_alloc] at hsz1
    have hP1 : PM w1 (w.heap.size + 1) s { toks := lexFrom s 0, depth := 0, e := 0, eat := 0 } := by
      obtain ⟨a, ha, _, hh, _⟩ := lex_facts (s := s) (pos := 0) (by omega)
      refine ⟨?_, 0, by omega, rfl⟩
      have h1 : (PS.mk (lexFrom s 0) 0 0 0).hd = (scanL (s.drop a), a) := hh
      unfold PS.at_
      rw [h1]
      simp only [List.length_nil, Nat.add_zero] at hB1
      rw [← ha] at hB1
      exact hB1
    have hZ1 := ((Blk.new w 36 zeroExpr).alloc (.cells (pcells s [] 0 0 0 0) 62)).grown hgr (by simp)
    have hG1 : Below w.heap.size w w1 := (below2 w (.cells zeroExpr 36) (.cells (pcells s [] 0 0 0 0) 62)).grown hgr (by simp; omega) (by intro k hk; cases hk; omega)
    have HP1 := Lib.hid hP1; have HZ1 := Lib.hid hZ1
    clear hB0 hB1 hgr hP1 hZ1
    go_wp2_with fail
    refine (HD.out _ (w.heap.size + 1) _ HP1.out rfl).mono ?_
    rintro e w2 ⟨x, rfl, hE, hgr, hP2⟩
    generalize R { toks := lexFrom s 0, depth := 0, e := 0, eat := 0 } = r at *
    obtain ⟨rk, ra, rv, rA, rn, rc, rfl⟩ := hE.four
    have hsz2 := hgr.size
    have hZ2 := HZ1.out.grown hgr (by simp)
    have hG2 := hG1.grown hgr (by omega) (by intro k hk; cases hk; omega)
    obtain ⟨⟨c0, c1, c2, c3, c4, c5⟩, _⟩ := six hP2.blk
    have hE2 : ExprV (fun x => w.heap.size ≤ x ∧ x ≠ w.heap.size) w2 r.1 (.agg #[.int .i64 rk, .int .i64 ra, .int .i64 rv, .slice rA rn rc]) := ExprV.mono (by intro g _ h; exact ⟨by omega, by omega⟩) _ _ hE
    obtain ⟨⟨z0, z1, z2, z3⟩, zf0, zf1, zf2, zf3⟩ := hZ2.four
    have hltp : w.heap.size + 1 < w2.heap.size := by omega
    have hltz : w.heap.size < w2.heap.size := by omega
    have HP2 := Lib.hid hP2; have HZ2 := Lib.hid hZ2; have HE2 := Lib.hid hE2
    clear hP2 hZ2 hE hE2 hgr
    by_cases he : r.2.e = 0
    · rw [he] at c4
      by_cases hh : r.2.hd.1 = []
      · have hfin : parseL s = (r.1, 0, 0) := by rw [HF.out]; simp [he, hh]
        have t1 : ((str r.2.hd.1).toList == ([] : Bs)) = true := by rw [toList_str, hh]; rfl
        have t1' : (str r.2.hd.1).toList = [] := by rw [toList_str, hh]
        have t1'' : (str r.2.hd.1).toList.isEmpty = true := by rw [toList_str, hh]; rfl
        have HFin := Lib.hid hfin
        clear hh he hfin
        go_wp2_with fail
        refine ret_parse (x := .int .i64 0) (y := .int .i64 0) rfl w.heap.size _ _ _ _ rfl rfl rfl rfl ((HZ2.out.put4 _ _ _ _).alloc _) ?_
        unfold ParseSays
        rw [HFin.out]
        exact ⟨_, rfl, (ExprV.mono (by intro g _ h; exact h.1) _ _ (HE2.out.put4 (by simp) _ _ _ _)).alloc _, (hG2.put4 (Nat.le_refl _) _ _ _ _).alloc (by simp; omega) _⟩
      · have hfin : parseL s = (.zero, r.2.at_, 230) := by rw [HF.out]; simp [he, hh, PS.bad]
        have hb : r.2.bad 230 = { r.2 with e := 230, eat := r.2.at_ } := by unfold PS.bad; rw [if_pos he]
        have t1 : ((str r.2.hd.1).toList == ([] : Bs)) = false := by rw [toList_str]; simp [hh]
        have t1' : ¬ (str r.2.hd.1).toList = [] := by rw [toList_str]; exact hh
        have t1'' : (str r.2.hd.1).toList.isEmpty = false := by rw [toList_str]; simp [hh]
        have HFin := Lib.hid hfin; have Hb := Lib.hid hb
        clear hh he hfin hb
        go_wp2_with fail
        refine (bad_any (w.heap.size + 1) s r.2 230 _ (HP2.out.keep (below1 _ _))).mono ?_
        rintro e w3 ⟨rfl, hgr, hP3⟩
        rw [Hb.out] at hP3
        have hZ3 := (HZ2.out.alloc (.cells #[.int .i64 rk, .int .i64 ra, .int .i64 rv, .slice rA rn rc] 36)).grown hgr (by simp)
        have hG3 := (hG2.alloc (by omega) (.cells #[.int .i64 rk, .int .i64 ra, .int .i64 rv, .slice rA rn rc] 36)).grown hgr (by simp; omega) (by intro k hk; cases hk; omega)
        obtain ⟨⟨d0, d1, d2, d3, d4, d5⟩, _⟩ := six hP3.blk
        obtain ⟨⟨y0, y1, y2, y3⟩, yf0, yf1, yf2, yf3⟩ := hZ3.four
        simp only at d4 d5
        have HP3 := Lib.hid hP3; have HZ3 := Lib.hid hZ3
        clear hP3 hZ3 hgr d0 d1 d2 d3 c0 c1 c2 c3 c4 c5 z0 z1 z2 z3 zf0 zf1 zf2 zf3
        go_wp2_with fail
        go_region
        go_wp2_with fail
        refine ret_parse (x := .int .i64 (r.2.at_ : Int)) (y := .int .i64 230) rfl w.heap.size _ _ _ _ rfl rfl rfl rfl (HZ3.out.put4 _ _ _ _).drew ?_
        unfold ParseSays
        rw [HFin.out]
        exact ⟨_, rfl, ExprV.zero _ _, (hG3.put4 (Nat.le_refl _) _ _ _ _).drew⟩
    · have hfin : parseL s = (.zero, r.2.eat, r.2.e) := by rw [HF.out]; simp [he]
      have he3 : ((r.2.e : Int) == 0) = false := by simp; omega
      have he4 : ((r.2.e : Int) != 0) = true := by rw [bne_iff_ne]; omega
      have HFin := Lib.hid hfin
      clear he hfin
      go_wp2_with fail
      go_region
      go_wp2_with fail
      refine ret_parse (x := .int .i64 (r.2.eat : Int)) (y := .int .i64 (r.2.e : Int)) rfl w.heap.size _ _ _ _ rfl rfl rfl rfl ((HZ2.out.put4 _ _ _ _).alloc _).drew ?_
      unfold ParseSays
      rw [HFin.out]
      exact ⟨_, rfl, ExprV.zero _ _, ((hG2.put4 (Nat.le_refl _) _ _ _ _).alloc (by simp; omega) _).drew⟩
end Go.Proofs.Ytmjpecjciibngaa
