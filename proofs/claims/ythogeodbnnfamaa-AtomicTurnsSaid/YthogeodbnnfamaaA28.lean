/-
  What is asked of a law's row behind a call that returned true and left what was there. No conditions.
-/
import Derived.Test.YthogeodbnnfamaaA27
import Derived.ReadAgain
set_option linter.unusedVariables false
namespace Go.AL
open Go Go.ChangeShapes Go.RowKit

section
variable {H : Type} {enc : TypeId × Value → H} {P : Program}

theorem trodAll_carry' {w w' : World} {base : Nat} {sp : Nat → Bool} {hd : Bool} : ∀ {ts : List TypeId} {vs : List Value} {ds : List (DataW H)} {ps : List MemPlace}, DataW.TrodAll enc P w base sp hd ts vs ds ps → (∀ p ∈ ps, w.sameAt w' p) → DataW.TrodAll enc P w' base sp hd ts vs ds ps
  | [], [], [], _, h, _ => h
  | _ :: _, _ :: _, _ :: _, _, ⟨p, q, ⟨n, h1⟩, h2, e⟩, hs => ⟨p, q, ⟨n, DataW.trod_carry n _ _ _ h1 fun x hx => hs x (by rw [e]; exact List.mem_append_left _ hx)⟩, trodAll_carry' h2 fun x hx => hs x (by rw [e]; exact List.mem_append_right _ hx), e⟩

theorem post_law {T' : TypeId → Prop} (K : Kids P T') (hz : ∀ t e, T' t → P.underlying t = some (.slice e) → 0 < P.cellsOf e) {f : Func} {s : ChangeSpec} {apart fresh handsOn again : Bool} {W W' : World} {args : Array Value} {ds gs : List (DataW H)} {before : List MemPlace} {tb : TypeId}
    (hT : ∀ t ∈ f.params.toList, T' t) (hW : DataW.Whole enc P f.params.toList s.vars apart W args.toList ds gs before) (hB : Below W.heap.size W W') (hvars : s.vars = [])
    (hr : (s.fn H (ds ++ gs)).results = [.lit (.bool true)]) (ha : (s.fn H (ds ++ gs)).args = ds) (hv : (s.fn H (ds ++ gs)).vars = []) (hrt : f.resultTypes = #[tb]) (htb : P.underlying tb = some .bool) :
    s.post enc P f apart fresh handsOn again W args (.bool true) W' := by
  have hlt := hW.lt
  have hold : ∀ p ∈ before, (fun b => decide (b < W.heap.size)) p.block = true := fun p hp => by simpa using hlt p hp
  obtain ⟨p, q, h1, h2, h3, h4, h5⟩ := id hW
  have hq : q = [] := by
    rw [hvars] at h2
    cases gs with
    | nil => exact h2
    | cons => cases h2
  subst hq
  rw [List.append_nil] at h3
  subst h3
  have hres : ∀ (b : Nat) (sp : Nat → Bool) (hd : Bool), DataW.TrodAll enc P W' b sp hd f.resultTypes.toList ((Value.bool true).resultList f.resultTypes.size) (s.fn H (ds ++ gs)).results [] := fun b sp hd => by
    rw [hr, hrt]
    exact trodAll_mk1 ⟨1, by simp [Value.cells, DataW.trod, htb]⟩
  have hargs : ∀ sp : Nat → Bool, (∀ x ∈ before, sp x.block = true) → DataW.TrodAll enc P W' 0 sp true f.params.toList args.toList (s.fn H (ds ++ gs)).args before := fun sp hsp => by
    rw [ha]
    exact trodAll_carry' (h1.respare K hz hT hsp) fun x hx => hB.same (hlt x hx)
  have hv' : ∀ sp : Nat → Bool, DataW.TrodVars enc P W' sp s.vars (s.fn H (ds ++ gs)).vars [] := fun sp => by
    rw [hvars, hv]; exact rfl
  refine ⟨ds, gs, before, [], before, [], hW, hres _ _ _, hargs _ hold, hv' _, World.keptBut_mono (fun p hp => ⟨hp, Or.inr (by simpa using hp)⟩) (hB.frame (· ∈ before)), fun _ => ?_⟩
  refine ⟨?_, _, _, ([] ++ before) ++ [], ⟨[] ++ before, [], trodAll_append (hargs _ (fun _ _ => rfl)) (hres _ _ _), hv' _, rfl, ?_, ?_⟩, ?_⟩
  · intro j t r hj hr'
    rw [hrt] at hj hr'
    cases j with
    | zero =>
      simp at hj; subst hj
      simp [Value.resultList] at hr'; subst hr'
      simp [Value.okWide, htb, Cell.okWide, Cell.ok]
    | succ j => simp at hj
  · intro b off hp
    have hp : MemPlace.cell b off ∈ before := by simpa using hp
    rw [hB.frozen (hlt _ hp)]
    exact h4 b off (by simpa using hp)
  · intro hap
    have := h5 hap
    simpa using this
  · intro p hp _
    simpa using hp
end
end Go.AL
