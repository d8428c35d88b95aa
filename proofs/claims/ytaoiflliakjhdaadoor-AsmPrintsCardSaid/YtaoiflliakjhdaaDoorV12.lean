/-
  The plain law of AsmReads, fourth part: the lines. No model.
-/
import Derived.Test.YtaoiflliakjhdaaDoorV11
set_option linter.unusedVariables false
set_option linter.unusedSimpArgs false
namespace Go.AL
open Go Go.Proofs

def chk : List Bs → List Bs
  | [] => []
  | [h] => if h = [] then [] else [h]
  | h :: g :: t => (h ++ [10]) :: chk (g :: t)
theorem chunks_eq : ∀ s, chunks s = chk (cuts 10 s)
  | [] => rfl
  | c :: r => by
    have ih := chunks_eq r
    have hne := cuts_ne 10 r
    rw [chunks, cuts]
    by_cases hc : c = 10
    · rw [if_pos hc, if_pos hc, ih]
      cases hk : cuts 10 r with
      | nil => exact absurd hk hne
      | cons a t => rfl
    · rw [if_neg hc, if_neg hc]
      cases hk : cuts 10 r with
      | nil => exact absurd hk hne
      | cons a t =>
        rw [hk] at ih
        rw [ih]
        cases t with
        | nil =>
          cases a with
          | nil => simp [chk, consH]
          | cons x y => simp [chk, consH]
        | cons b u => simp [chk, consH]
end Go.AL
