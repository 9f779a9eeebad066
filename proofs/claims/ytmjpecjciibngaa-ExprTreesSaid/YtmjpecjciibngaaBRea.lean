/- What a row asks behind a call that leaves all old blocks as they were, where no argument holds a pointer. A call that leaves all old blocks as they were: whatever its arguments are, they read as they did. For any number of arguments of any readable types. -/
import Derived.Test.YtmjpecjciibngaaRows
import Derived.ProofKit
import Derived.OpenShut
import Derived.Test.YtmjpecjciibngaaBBase
import Derived.ReadAgain
namespace Go.Proofs.Ytmjpecjciibngaa
open Go.ChangeShapes Go.WideShapes Go.ChangeAt Go.RowKit

theorem u8_nat {a : Int} (h : (Lit.int .u8 a).wf = true) : ∃ n : Nat, n < 256 ∧ a = (n : Int) := by
  have e1 : IntKind.u8.min = 0 := rfl
  have e2 : IntKind.u8.max = 255 := rfl
  simp only [Lit.wf, Bool.and_eq_true, decide_eq_true_eq] at h
  exact ⟨a.toNat, by omega, by omega⟩
section
variable {H : Type} {enc : TypeId × Value → H} {P : Program}
theorem post_below {f : Func} {s : ChangeSpec} {apart fresh handsOn again : Bool} {W W' : World} {args : Array Value} {v : Value} {ds gs : List (DataW H)}
    (hW : DataW.Whole enc P f.params.toList s.vars apart W args.toList ds gs [])
    (hres : ∀ (b : Nat) (sp : Nat → Bool) (h : Bool), DataW.TrodAll enc P W' b sp h f.resultTypes.toList (v.resultList f.resultTypes.size) (s.fn H (ds ++ gs)).results [])
    (hargs : ∀ sp : Nat → Bool, (∀ p ∈ ([] : List MemPlace), sp p.block = true) → DataW.TrodAll enc P W' 0 sp true f.params.toList args.toList (s.fn H (ds ++ gs)).args [])
    (hvars : ∀ sp : Nat → Bool, (∀ p ∈ ([] : List MemPlace), sp p.block = true) → DataW.TrodVars enc P W' sp s.vars (s.fn H (ds ++ gs)).vars [])
    (hk : W.keptBut W' (· ∈ ([] : List MemPlace)))
    (hok : ∀ (j : Nat) (t : TypeId) (r : Value), f.resultTypes[j]? = some t → (v.resultList f.resultTypes.size)[j]? = some r → Value.okWide P W' .any 0 t r) :
    s.post enc P f apart fresh handsOn again W args v W' := by
  refine ⟨ds, gs, [], [], [], [], hW, hres _ _ _, hargs _ (by simp), hvars _ (by simp), World.keptBut_mono (fun p hp => by cases hp) hk, fun _ => ?_⟩
  exact ⟨hok, _, _, ([] ++ []) ++ [], ⟨[] ++ [], [], trodAll_append (hargs _ (by simp)) (hres _ _ _), hvars _ (by simp), rfl, fun b off hp => absurd hp (by simp), fun _ => List.nodup_nil⟩, fun p hp _ => absurd hp (by simp)⟩
end
end Go.Proofs.Ytmjpecjciibngaa
namespace Go.Proofs.Ytmjpecjciibngaa
open Go.ChangeShapes Go.WideShapes Go.ChangeAt Go.RowKit

section
variable {H : Type} {enc : TypeId × Value → H} {P : Program}
theorem trodAll_carry {w w' : World} {base : Nat} {spare : Nat → Bool} {held : Bool} : ∀ {ts : List TypeId} {vs : List Value} {ds : List (DataW H)} {ps : List MemPlace}, DataW.TrodAll enc P w base spare held ts vs ds ps → (∀ p ∈ ps, w.sameAt w' p) → DataW.TrodAll enc P w' base spare held ts vs ds ps
  | [], [], [], _, h, _ => h
  | _ :: _, _ :: _, _ :: _, _, ⟨p, q, ⟨n, h1⟩, h2, e⟩, hs => ⟨p, q, ⟨n, DataW.trod_carry n _ _ _ h1 (fun x hx => hs x (by rw [e]; exact List.mem_append_left _ hx))⟩, trodAll_carry h2 (fun x hx => hs x (by rw [e]; exact List.mem_append_right _ hx)), e⟩
theorem sameAt_below {W W' : World} (hb : Below W.heap.size W W') (p : MemPlace) (hp : p.block < W.heap.size) : W.sameAt W' p := by
  cases p with
  | cell b off => exact hb.cell (p := ⟨b, off, none⟩) hp
  | map b => exact hb.block b hp
/-- What a row asks behind a call that leaves the old blocks, where it returns what reads as the specification says and hands back the arguments as they were. -/
theorem post_reads {T : TypeId → Prop} (K : Kids P T) (hz : ∀ t e, T t → P.underlying t = some (.slice e) → 0 < P.cellsOf e) {f : Func} (hT : ∀ t ∈ f.params.toList, T t) {s : ChangeSpec} {apart fresh handsOn again : Bool} {W W' : World} {args : Array Value} {v : Value} {ds : List (DataW H)} {ps : List MemPlace}
    (hW : DataW.Whole enc P f.params.toList s.vars apart W args.toList ds [] ps) (hv : s.vars = []) (hA : DataW.TrodAll enc P W 0 (fun _ => true) true f.params.toList args.toList ds ps)
    (hres : ∀ (b : Nat) (sp : Nat → Bool) (h : Bool), DataW.TrodAll enc P W' b sp h f.resultTypes.toList (v.resultList f.resultTypes.size) (s.fn H (ds ++ [])).results [])
    (hargs : (s.fn H (ds ++ [])).args = ds) (hvars : (s.fn H (ds ++ [])).vars = []) (hb : Below W.heap.size W W')
    (hok : ∀ (j : Nat) (t : TypeId) (r : Value), f.resultTypes[j]? = some t → (v.resultList f.resultTypes.size)[j]? = some r → Value.okWide P W' .any 0 t r) :
    s.post enc P f apart fresh handsOn again W args v W' := by
  have hlt : ∀ p ∈ ps, p.block < W.heap.size := fun p hp => hA.lt p hp
  have hA' : ∀ sp : Nat → Bool, (∀ p ∈ ps, sp p.block = true) → DataW.TrodAll enc P W' 0 sp true f.params.toList args.toList ds ps := fun sp hsp =>
    DataW.TrodAll.respare K hz hT (trodAll_carry hA fun p hp => sameAt_below hb p (hlt p hp)) hsp
  have hV : ∀ sp : Nat → Bool, DataW.TrodVars enc P W' sp s.vars (s.fn H (ds ++ [])).vars [] := fun sp => by rw [hv, hvars]; rfl
  have hold : ∀ p ∈ ps, (fun b => decide (b < W.heap.size)) p.block = true := fun p hp => by simpa using hlt p hp
  refine ⟨ds, [], ps, [], ps, [], hW, hres _ _ _, ?_, hV _, ?_, fun _ => ?_⟩
  · rw [hargs]; exact hA' _ hold
  · exact World.keptBut_mono (fun p (hp : p ∈ ([] : List MemPlace)) => by cases hp) (hb.frame _)
  · obtain ⟨_, _, _, _, _, hz', hn⟩ := hW
    refine ⟨hok, _, _, ([] ++ ps) ++ [], ⟨[] ++ ps, [], trodAll_append (hA' _ (fun _ _ => rfl)) (hres _ _ _), hV _, rfl, ?_, ?_⟩, ?_⟩
    · intro b off hp
      have hp' : MemPlace.cell b off ∈ ps := by simpa using hp
      have h1 := hz' b off hp'
      have h2 := hb.frozen (p := ⟨b, off, none⟩) (hlt _ hp')
      rw [h2]; exact h1
    · intro ha
      simpa using hn ha
    · intro p hp _
      simpa using hp
end
theorem kids : Kids Try.prog (· < Try.prog.types.size) := kids_rows (by kernel_rfl) (by kernel_rfl)
theorem full : ∀ t e, t < Try.prog.types.size → Try.prog.underlying t = some (.slice e) → 0 < Try.prog.cellsOf e := slices_full_of Try.prog (by kernel_rfl)
end Go.Proofs.Ytmjpecjciibngaa
