/-
  The logic of walks, part 6. An empty slice in a box is taken for an owned one. No conditions.
-/
import Derived.Test.YthogeodbnnfamaaL4
set_option linter.unusedVariables false
set_option linter.unusedSimpArgs false
namespace Go.AL
open Go

theorem Inv.extend {ext : Nat → Prop} {w : World} {H : List AObj} {β : List Ent} (hI : Inv ext w H β) (bt : TypeId) (es : Nat) :
    Inv ext w (H ++ [.arr 1 bt es []]) (β ++ [⟨none, 1, es, 0, 0⟩]) ∧ Step w β w (β ++ [⟨none, 1, es, 0, 0⟩]) := by
  have hlen := hI.len
  have hst : Step w β w (β ++ [⟨none, 1, es, 0, 0⟩]) := by
    refine ⟨rfl, rfl, rfl, Nat.le_refl _, fun b hb _ => rfl, fun b hb => ?_, fun j e he => ⟨e, by rw [List.getElem?_append_left (List.getElem?_eq_some_iff.1 he).1]; exact he, Nat.le_refl _, fun _ => rfl, fun _ => rfl⟩⟩
    obtain ⟨j, e, he, hb⟩ := hb
    rcases Nat.lt_or_ge j β.length with hlt | hge
    · rw [List.getElem?_append_left hlt] at he; exact .inl ⟨j, e, he, hb⟩
    · rw [List.getElem?_append_right hge] at he
      have : j - β.length = 0 := by
        have := (List.getElem?_eq_some_iff.1 he).1
        simpa using this
      rw [this] at he; simp at he; subst he; cases hb
  have cls : ∀ (i : Nat) (f : Ent), (β ++ [⟨none, 1, es, 0, 0⟩])[i]? = some f → β[i]? = some f ∨ (i = β.length ∧ f = ⟨none, 1, es, 0, 0⟩) := fun i f hf => by
    rcases Nat.lt_or_ge i β.length with hlt | hge
    · rw [List.getElem?_append_left hlt] at hf; exact .inl hf
    · rw [List.getElem?_append_right hge] at hf
      have : i - β.length = 0 := by
        have := (List.getElem?_eq_some_iff.1 hf).1
        simpa using this
      rw [this] at hf; simp at hf; exact .inr ⟨by omega, hf.symm⟩
  refine ⟨?_, hst⟩
  refine hI.upd hst (by simp [hlen]) ?_ ?_ ?_
  · intro j o e ho he
    rcases cls j e he with h1 | ⟨h1, h2⟩
    · have hlt := (List.getElem?_eq_some_iff.1 h1).1
      rw [List.getElem?_append_left (by rw [← hlen]; exact hlt)] at ho
      exact .inl ⟨ho, h1, fun _ _ => rfl⟩
    · subst h2
      rw [h1, hlen] at ho
      simp at ho; subst ho
      exact .inr ⟨rfl, by decide, rfl, rfl, Nat.le_refl _, rfl⟩
  · intro i k e f b hi hk he hf
    rcases cls i e hi with h1 | ⟨h1, h2⟩ <;> rcases cls k f hk with h3 | ⟨h3, h4⟩
    · exact hI.uniq i k e f b h1 h3 he hf
    · subst h4; cases hf
    · subst h2; cases he
    · omega
  · intro b hb
    rcases hst.fresh b hb with h1 | h1
    · exact hI.sep b h1
    · obtain ⟨j, e, he, hb⟩ := hb
      rcases cls j e he with h2 | ⟨h2, h3⟩
      · exact hI.sep b ⟨j, e, h2, hb⟩
      · subst h3; cases hb

theorem aw_adoptB {P : Program} {G : Gh} {Q : APost} {c : Code} {F : Fr} {H : List AObj} (j i : Nat) (bt : TypeId) (es : Nat) {t : TypeId} {cs : List AVal} (hj : H[j]? = some (.box t cs)) (hi : cs[i]? = some (.slf []))
    (h : AW P G c Q F ((H ++ [AObj.arr 1 bt es []]).set j (.box t (cs.set i (.arr H.length 1))))) : AW P G c Q F H := by
  rintro a w ⟨β, hs⟩
  obtain ⟨hinv, hst⟩ := hs.inv.extend bt es
  have hlen := hs.inv.len
  have hjl := (List.getElem?_eq_some_iff.1 hj).1
  have hs1 := hs.world hinv hst
  refine h a w ⟨_, hs1.world ?_ (Step.refl _ _)⟩
  refine hinv.upd (Step.refl _ _) (by simp [hlen]) ?_ hinv.uniq (fun b hb => hinv.sep b hb)
  intro k o e ho he
  by_cases hk : k = j
  · subst hk
    rw [List.getElem?_set_self (by simp; omega)] at ho
    simp at ho; subst ho
    have hold := hinv.obj k (.box t cs) e (by rw [List.getElem?_append_left hjl]; exact hj) he
    obtain ⟨h0, h1, b, us, h2, h3, h4⟩ := hold
    refine .inr ⟨h0, ?_, b, us, h2, h3, ?_⟩
    · rw [List.all_eq_true] at h1 ⊢
      intro x hx
      rcases List.mem_or_eq_of_mem_set hx with hx | rfl
      · exact h1 x hx
      · rfl
    · obtain ⟨u, hu, hr⟩ := h4.get hi
      have hnew : Rel (ctx G.ext w (β ++ [⟨none, 1, es, 0, 0⟩])) (.arr H.length 1) u := by
        obtain ⟨A, es', g1, g2, g3⟩ := hr
        exact ⟨by subst g1; rfl, ⟨none, 1, es, 0, 0⟩, by rw [← hlen]; simp, Nat.le_refl _, fun _ => ⟨Nat.le_refl _, rfl, A, g1⟩⟩
      have := h4.set i hnew
      have e1 : us.toList.set i u = us.toList := by
        refine List.ext_getElem? fun q => ?_
        by_cases hq : q = i
        · subst hq; rw [List.getElem?_set_self (List.getElem?_eq_some_iff.1 hu).1, hu]
        · rw [List.getElem?_set_ne (by omega)]
      rwa [e1] at this
  · rw [List.getElem?_set_ne (by omega)] at ho
    exact .inl ⟨ho, he, fun _ _ => rfl⟩

theorem jadB {P : Program} {G : Gh} {Q : APost} {F : Fr} {H H' : List AObj} {k : Kt} {c : Code} (j i : Nat) (bt : TypeId) (es : Nat) {t : TypeId} {cs : List AVal} {n : Nat} (hj : H[j]? = some (.box t cs)) (hi : cs[i]? = some (.slf [])) (hn : lenH H = some n)
    (hH : nrmH ((H ++ [AObj.arr 1 bt es []]).set j (.box t (cs.set i (.arr n 1)))) = some H') (h : J P G Q (.c c k) F H') : J P G Q (.c c k) F H := by
  refine aw_adoptB j i bt es hj hi ?_
  rw [lenH_eq hn] at hH
  rw [nrmH_eq hH] at h
  exact h
end Go.AL
