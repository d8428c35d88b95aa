/-
  Spans and rows from outside, opened. No conditions.
-/
import Derived.Test.YthogeodbnnfamaaS17
import Derived.Test.YthogeodbnnfamaaS38
set_option linter.unusedVariables false
namespace Go.Proofs.Ythogeodbnnfamaa
open Go Go.AL Go.ChangeShapes Go.WideShapes Go.ChangeAt Go.RowKit
section
variable {H : Type} {enc : TypeId × Value → H} {W : World} {v : Value} {d : DataW H} {p : List MemPlace}
theorem ten_ints : ∀ {ns : List Int}, ns.length = 10 → ∃ a b c d e f g h i j, ns = [a, b, c, d, e, f, g, h, i, j]
  | [a, b, c, d, e, f, g, h, i, j], _ => ⟨a, b, c, d, e, f, g, h, i, j, rfl⟩
theorem open_spans (hv : ∃ a l c, v = .slice a l c) (h : DataW.Trod enc Try.prog W 0 (fun _ => true) true 53 v d p) : ∃ m : List Span, m.length ≤ maxLen ∧ Rel (out W) (.sl (m.map encSp)) v :=
  open_list (fun ns => ⟨ns.getD 0 0, ns.getD 1 0, ⟨ns.getD 2 0, ns.getD 3 0, ns.getD 4 0, ns.getD 5 0⟩, ⟨ns.getD 6 0, ns.getD 7 0⟩, ns.getD 8 0, ns.getD 9 0⟩) rfl rfl rfl (by kernel_rfl) (by decide) (fun h => by cases h)
    (fun ns hn => by obtain ⟨a, b, c, d, e, f, g, h, i, j, rfl⟩ := ten_ints hn; rfl) hv h
theorem open_ints (hv : ∃ a l c, v = .slice a l c) (h : DataW.Trod enc Try.prog W 0 (fun _ => true) true 54 v d p) : ∃ m : List Int, m.length ≤ maxLen ∧ Rel (out W) (.sl (m.map encI)) v :=
  open_list (fun ns => ns.headD 0) rfl rfl rfl (by kernel_rfl) (by decide) (fun _ => rfl) (fun ns hn => rfl) hv h
end
end Go.Proofs.Ythogeodbnnfamaa
