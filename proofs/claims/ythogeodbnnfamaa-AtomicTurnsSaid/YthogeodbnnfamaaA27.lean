/-
  A contract, and what is asked of a row: the call returns true, and what was there is as it was. No conditions.
-/
import Derived.Test.YthogeodbnnfamaaA26
import Derived.ChangeSame
import Derived.Below
set_option linter.unusedVariables false
namespace Go.AL
open Go Go.ChangeShapes Go.RowKit

section
variable {P : Program}

theorem out_le (w : World) : (out w).le (ctx (fun _ => False) w []) where
  old := fun b hb _ => ⟨hb, fun h => by
    rcases h with h | ⟨j, e, h, _⟩
    · exact h
    · simp at h, rfl⟩
  ents := fun j e h => by simp at h

theorem law_calls {f : FuncId} {as : List AVal} {args : Array Value} {W : World} {x : Value} (hA : ACalls P f as [] (one (.v x) [])) (hR : RelL (out W) as args.toList) :
    Calls P f args W fun e W' => e = .returned x ∧ Below W.heap.size W W' := by
  have hI : Inv (fun _ => False) W [] [] := ⟨rfl, fun j o e h => by simp at h, fun i j e f b h => by simp at h, fun b ⟨j, e, h, _⟩ => by simp at h⟩
  have h := hA.calls (fun _ => False) W [] args.toList hI (fun b h => h.elim) (RelL.le (out_le W) _ _ hR)
  rw [Array.toArray_toList] at h
  refine h.mono fun e W' he => ?_
  cases e with
  | returned u =>
    obtain ⟨v, H', β', ⟨h1, rfl⟩, h2, h3, h4⟩ := he
    injection h1 with h1
    subst h1
    have hu : u = x := h2
    refine ⟨by rw [hu], h4.os, h4.tape, h4.output, h4.size, fun k hk => h4.keep k hk ?_⟩
    rintro ⟨j, e, h, _⟩
    exact absurd h (by simp)
  | panicked ch => obtain ⟨u, _, v, H', β', ⟨h1, _⟩, _⟩ := he; cases h1
  | outgrown => exact he.elim
end
end Go.AL
