/-
  What the laws are handed from outside, opened. No conditions.
-/
import Derived.Test.YthogeodbnnfamaaTy
import Derived.Test.YthogeodbnnfamaaL5
import Derived.Test.YthogeodbnnfamaaS16
import Derived.JoinedOf
import Derived.JoinedAt
import Derived.RowKit3
set_option linter.unusedVariables false
namespace Go.Proofs.Ythogeodbnnfamaa
open Go Go.AL Go.ChangeShapes Go.WideShapes Go.ChangeAt Go.RowKit

section
variable {H : Type} {enc : TypeId × Value → H} {W : World} {v : Value} {d : DataW H} {p : List MemPlace}
theorem open_agg {t : TypeId} {r : TyRow} (ht : tfind (tyTab.tab) t = some r) (hi : allInt tyTab.tab Try.prog.stoodInHeld 100 t = true) (ha : aggB r.d = true) (h : DataW.Trod enc Try.prog W 0 (fun _ => true) true t v d p) (hv : ∀ ns : List Int, v.cells.toList = intsV ns → ns.length = r.size → ∃ x, v = .agg x) :
    ∃ ns : List Int, ns.length = r.size ∧ Rel (out W) (.agg (intsA ns)) v := by
  obtain ⟨n, hn⟩ := h
  obtain ⟨ns, h1, h2⟩ := trod_ints (T := tyTab) (st := Try.prog.stoodInHeld) 100 t r n _ _ hi ht hn
  obtain ⟨x, rfl⟩ := hv ns h1 h2
  exact ⟨ns, h2, x, rfl, by rw [show x.toList = intsV ns from h1]; exact relL_ints _ ns⟩
theorem open_list {α : Type} {encX : α → AVal} {t e : TypeId} {r r' : TyRow} (f : List Int → α) (ht : tfind tyTab.tab t = some r') (hd' : r'.d = .slice e) (he : tfind tyTab.tab e = some r) (hi : allInt tyTab.tab Try.prog.stoodInHeld 100 e = true) (hz : r.size ≠ 0) (h1 : aggB r.d = false → r.size = 1)
    (hf : ∀ ns : List Int, ns.length = r.size → encX (f ns) = rowA (aggB r.d) ns) (hv : ∃ a l c, v = .slice a l c) (h : DataW.Trod enc Try.prog W 0 (fun _ => true) true t v d p) : ∃ m : List α, m.length ≤ maxLen ∧ Rel (out W) (.sl (m.map encX)) v := by
  obtain ⟨a, l, c, rfl⟩ := hv
  obtain ⟨n, hn⟩ := h
  obtain ⟨nss, g1, g2, g3⟩ := open_rows (T := tyTab) (st := Try.prog.stoodInHeld) (n := 100) ht hd' he hi hz h1 hn
  refine ⟨nss.map f, by simpa using g2, ?_⟩
  have : (nss.map f).map encX = nss.map (rowA (aggB r.d)) := by
    rw [List.map_map]
    exact List.map_congr_left fun ns hns => hf ns (g1 ns hns)
  rw [this]
  exact g3
theorem two_ints : ∀ {ns : List Int}, ns.length = 2 → ∃ a b, ns = [a, b]
  | [a, b], _ => ⟨a, b, rfl⟩
theorem four_ints : ∀ {ns : List Int}, ns.length = 4 → ∃ a b c d, ns = [a, b, c, d]
  | [a, b, c, d], _ => ⟨a, b, c, d, rfl⟩
theorem agg_of {n : Nat} {ns : List Int} (h : v.cells.toList = intsV ns) (hl : ns.length = n) (hn : n ≠ 1) : ∃ x, v = .agg x := by
  cases v with
  | agg x => exact ⟨x, rfl⟩
  | _ => (have := congrArg List.length h; simp [Value.cells, intsV] at this; omega)
theorem open_pairs (hv : ∃ a l c, v = .slice a l c) (h : DataW.Trod enc Try.prog W 0 (fun _ => true) true 22 v d p) : ∃ m : List Pair, m.length ≤ maxLen ∧ Rel (out W) (.sl (m.map encP)) v :=
  open_list (fun ns => ⟨ns.headD 0, ns.tail.headD 0⟩) rfl rfl rfl (by kernel_rfl) (by decide) (fun h => by cases h) (fun ns hn => by obtain ⟨a, b, rfl⟩ := two_ints hn; rfl) hv h
theorem open_calls (hv : ∃ a l c, v = .slice a l c) (h : DataW.Trod enc Try.prog W 0 (fun _ => true) true 40 v d p) : ∃ m : List AL.Call, m.length ≤ maxLen ∧ Rel (out W) (.sl (m.map encC)) v :=
  open_list (fun ns => ⟨ns.headD 0, ns.tail.headD 0, ns.tail.tail.headD 0, ns.tail.tail.tail.headD 0⟩) rfl rfl rfl (by kernel_rfl) (by decide) (fun h => by cases h) (fun ns hn => by obtain ⟨a, b, c, d, rfl⟩ := four_ints hn; rfl) hv h
theorem open_call (h : DataW.Trod enc Try.prog W 0 (fun _ => true) true 24 v d p) : ∃ c : AL.Call, True ∧ Rel (out W) (encC c) v := by
  obtain ⟨ns, h1, h2⟩ := open_agg (t := 24) rfl (by kernel_rfl) rfl h (fun ns h1 h2 => agg_of h1 h2 (by decide))
  obtain ⟨a, b, c, d, rfl⟩ := four_ints h1
  exact ⟨⟨a, b, c, d⟩, trivial, h2⟩
theorem open_reply (h : DataW.Trod enc Try.prog W 0 (fun _ => true) true 28 v d p) : ∃ c : Reply, True ∧ Rel (out W) (encR c) v := by
  obtain ⟨ns, h1, h2⟩ := open_agg (t := 28) rfl (by kernel_rfl) rfl h (fun ns h1 h2 => agg_of h1 h2 (by decide))
  obtain ⟨a, b, rfl⟩ := two_ints h1
  exact ⟨⟨a, b⟩, trivial, h2⟩
theorem open_int (hv : ∃ n, v = .int .i64 n) (h : DataW.Trod enc Try.prog W 0 (fun _ => true) true 3 v d p) : ∃ n : Int, True ∧ Rel (out W) (.v (.int .i64 n)) v := by
  obtain ⟨n, rfl⟩ := hv
  exact ⟨n, trivial, rfl⟩
end
theorem own : ownKnob Try.prog.godebug = none := by kernel_rfl
theorem kids : Kids Try.prog (· < Try.prog.types.size) := kids_rows (by kernel_rfl) (by kernel_rfl)
theorem full : ∀ t e, t < Try.prog.types.size → Try.prog.underlying t = some (.slice e) → 0 < Try.prog.cellsOf e := slices_full_of _ (by kernel_rfl)
end Go.Proofs.Ythogeodbnnfamaa
