/-
  Code that is handed in. No conditions.
-/
import Derived.Test.YtaoiflliakjhdaaDoorC0
import Derived.Test.YtaoiflliakjhdaaDoorU9
import Derived.Test.YtaoiflliakjhdaaDoorU10
set_option linter.unusedVariables false
set_option maxRecDepth 100000
namespace Go.Proofs.YtaoiflliakjhdaaDoor
open Go Go.AL Go.ChangeShapes Go.WideShapes Go.ChangeAt Go.RowKit

theorem four_ints : ∀ {ns : List Int}, ns.length = 4 → ns = [ns.getD 0 0, ns.getD 1 0, ns.getD 2 0, ns.getD 3 0]
  | [a, b, c, d], _ => rfl
theorem open_instrs {H : Type} {enc : TypeId × Value → H} {W : World} {v : Value} {d : DataW H} {p : List MemPlace} (hv : ∃ a l c, v = .slice a l c) (h : DataW.Trod enc Tryd.prog W 0 (fun _ => true) true 23 v d p) :
    ∃ l : List Ins, l.length ≤ maxLen ∧ Rel (out W) (encIs l) v := by
  obtain ⟨a, l, c, rfl⟩ := hv
  obtain ⟨n, hn⟩ := h
  obtain ⟨nss, h1, h2, h3⟩ := open_rows (T := tyTab) (st := Tryd.prog.stoodInHeld) (n := 100) (t := 23) (e := 31) rfl rfl rfl (by kernel_rfl) (by decide) (fun h => by cases h) hn
  refine ⟨nss.map fun ns => ⟨ns.getD 0 0, ns.getD 1 0, ns.getD 2 0, ns.getD 3 0⟩, by simpa using h2, ?_⟩
  have : (nss.map fun ns => (⟨ns.getD 0 0, ns.getD 1 0, ns.getD 2 0, ns.getD 3 0⟩ : Ins)).map encIns = nss.map (rowA true) := by
    rw [List.map_map]
    refine List.map_congr_left fun ns hns => ?_
    rw [four_ints (h1 ns hns)]
    rfl
  unfold encIs
  rw [this]
  exact h3
end Go.Proofs.YtaoiflliakjhdaaDoor
