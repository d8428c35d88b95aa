/-
  A call that is handed owned things. No conditions.
-/
import Derived.Test.YthogeodbnnfamaaA22
set_option linter.unusedVariables false
namespace Go.AL
open Go
section
variable {P : Program}
theorem call_objq {dst : Option Tmp} {fo : Operand} {args : Array Operand} {argTypes : Array TypeId} {type : TypeId} {pos : String} {after : Array Edge} {guard : Option (Nat × Bool)} {F : Fr} {Hc H : List AObj} {g : FuncId} {first vs cap args0 : List AVal} {Q : Eff}
    (σ : List Nat) (hc : ACalls P g args0 H Q) (hf : ev F fo = some (.fn (.func g) first cap)) (ha : evs F args.toList = some vs) (hargs : rnL (tau σ Hc.length) args0 = first ++ vs ++ cap)
    (hσ : sigOk σ Hc.length = true) (hl : σ.length = H.length) (hla : ltL σ.length args0 = true) (ho : H.all (ltO σ.length) = true) (hH : σ.map (fun j => Hc[j]?) = H.map (fun o => some (rnO (tau σ Hc.length) o))) :
    OpSem P ⟨dst, .call { callee := .value fo, args, argTypes }, type, pos, after, guard⟩ F Hc (fun r G => ∃ r0 Ho, Q r0 Ho ∧ σ.length ≤ Ho.length ∧ G = putBack (tau σ Hc.length) σ Hc Ho ∧ r = match r0 with | .ret v => .ret (rnV (tau σ Hc.length) v) | .pan v => .pan (rnV (tau σ Hc.length) v)) := by
  have h1 := hc.from σ hσ hl hla ho (fun i j hij => by
    have := congrArg (fun l => l[i]?) hH
    simp only [List.getElem?_map, hij, Option.map_some] at this
    cases hi : H[i]? with
    | none => rw [hi] at this; cases this
    | some o => rw [hi] at this; simpa using this)
  rw [hargs] at h1
  exact call_sem hf ha h1
theorem call_obj {dst : Option Tmp} {fo : Operand} {args : Array Operand} {argTypes : Array TypeId} {type : TypeId} {pos : String} {after : Array Edge} {guard : Option (Nat × Bool)} {F : Fr} {Hc H H' : List AObj} {g : FuncId} {first vs cap args0 : List AVal} {v : AVal}
    (σ : List Nat) (hc : ACalls P g args0 H (one v H')) (hf : ev F fo = some (.fn (.func g) first cap)) (ha : evs F args.toList = some vs) (hargs : rnL (tau σ Hc.length) args0 = first ++ vs ++ cap)
    (hσ : sigOk σ Hc.length = true) (hl : σ.length = H.length) (hla : ltL σ.length args0 = true) (ho : H.all (ltO σ.length) = true) (hH : σ.map (fun j => Hc[j]?) = H.map (fun o => some (rnO (tau σ Hc.length) o))) :
    DSem P .m ⟨dst, .call { callee := .value fo, args, argTypes }, type, pos, after, guard⟩ F Hc (rnV (tau σ Hc.length) v) (putBack (tau σ Hc.length) σ Hc H') := by
  have h1 := hc.from σ hσ hl hla ho (fun i j hij => by
    have := congrArg (fun l => l[i]?) hH
    simp only [List.getElem?_map, hij, Option.map_some] at this
    cases hi : H[i]? with
    | none => rw [hi] at this; cases this
    | some o => rw [hi] at this; simpa using this)
  rw [hargs] at h1
  refine call_sem hf ha (h1.mono ?_)
  rintro r G ⟨r0, Ho, ⟨rfl, rfl⟩, _, rfl, rfl⟩
  exact ⟨rfl, rfl⟩

/-- boxes are as they were, one by one -/
def SameBox : List AObj → List AObj → Prop
  | [], _ => True
  | .box t cs :: r, o :: r' => o = .box t cs ∧ SameBox r r'
  | .box _ _ :: _, [] => False
  | _ :: r, _ :: r' => SameBox r r'
  | _ :: r, [] => SameBox r []
theorem SameBox.ok : ∀ {H H' : List AObj}, SameBox H H' → Boxes H H'
  | [], _, _, j, t, cs, hj => by simp at hj
  | .box t0 cs0 :: r, [], h, _, _, _, _ => h.elim
  | .box t0 cs0 :: r, o :: r', h, j, t, cs, hj => by
    obtain ⟨h1, h2⟩ := h
    cases j with
    | zero => simp at hj ⊢; rw [h1, hj.1, hj.2]
    | succ j => exact h2.ok j t cs (by simpa using hj)
  | .arr .. :: r, H', h, j, t, cs, hj => by
    cases j with
    | zero => simp at hj
    | succ j => cases H' with
      | nil => exact absurd (SameBox.ok (H := r) (H' := []) h j t cs (by simpa using hj)) (by simp)
      | cons o r' => exact SameBox.ok (H := r) (H' := r') h j t cs (by simpa using hj)
  | .row .. :: r, H', h, j, t, cs, hj => by
    cases j with
    | zero => simp at hj
    | succ j => cases H' with
      | nil => exact absurd (SameBox.ok (H := r) (H' := []) h j t cs (by simpa using hj)) (by simp)
      | cons o r' => exact SameBox.ok (H := r) (H' := r') h j t cs (by simpa using hj)
  | .raw .. :: r, H', h, j, t, cs, hj => by
    cases j with
    | zero => simp at hj
    | succ j => cases H' with
      | nil => exact absurd (SameBox.ok (H := r) (H' := []) h j t cs (by simpa using hj)) (by simp)
      | cons o r' => exact SameBox.ok (H := r) (H' := r') h j t cs (by simpa using hj)
  | .map .. :: r, H', h, j, t, cs, hj => by
    cases j with
    | zero => simp at hj
    | succ j => cases H' with
      | nil => exact absurd (SameBox.ok (H := r) (H' := []) h j t cs (by simpa using hj)) (by simp)
      | cons o r' => exact SameBox.ok (H := r) (H' := r') h j t cs (by simpa using hj)
  | .dead .. :: r, H', h, j, t, cs, hj => by
    cases j with
    | zero => simp at hj
    | succ j => cases H' with
      | nil => exact absurd (SameBox.ok (H := r) (H' := []) h j t cs (by simpa using hj)) (by simp)
      | cons o r' => exact SameBox.ok (H := r) (H' := r') h j t cs (by simpa using hj)
theorem DSem.x {o : Oper} {F : Fr} {H H' : List AObj} {v : AVal} (h : DSem P .m o F H v H') (hb : SameBox H H') : DSem P .x o F H v H' := ⟨hb.ok, h⟩
end
end Go.AL
