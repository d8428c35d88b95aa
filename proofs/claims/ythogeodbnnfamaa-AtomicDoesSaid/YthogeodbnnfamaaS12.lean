/-
  The claim AtomicDoes: the law's contract, for every input from outside.
-/
import Derived.Test.YthogeodbnnfamaaS11
import Derived.Test.YthogeodbnnfamaaA28
import Derived.Test.YthogeodbnnfamaaRows
import Derived.JoinedOf
import Derived.JoinedAt
import Derived.RowKit3
set_option linter.unusedVariables false
namespace Go.Proofs.Ythogeodbnnfamaa
open Go Go.AL Go.ChangeShapes Go.WideShapes Go.ChangeAt Go.RowKit

theorem two_ints : ∀ {ns : List Int}, ns.length = 2 → ns = [ns.headD 0, ns.tail.headD 0]
  | [a, b], _ => rfl
theorem open_pairs {H : Type} {enc : TypeId × Value → H} {W : World} {v : Value} {d : DataW H} {p : List MemPlace} (hv : ∃ a l c, v = .slice a l c) (h : DataW.Trod enc Try.prog W 0 (fun _ => true) true 22 v d p) :
    ∃ m : List Pair, m.length ≤ maxLen ∧ Rel (out W) (.sl (m.map encP)) v := by
  obtain ⟨a, l, c, rfl⟩ := hv
  obtain ⟨n, hn⟩ := h
  obtain ⟨nss, h1, h2, h3⟩ := open_rows (T := tyTab) (st := Try.prog.stoodInHeld) (n := 100) (t := 22) (e := 77) rfl rfl rfl (by kernel_rfl) (by decide) (fun h => by cases h) hn
  refine ⟨nss.map fun ns => ⟨ns.headD 0, ns.tail.headD 0⟩, by simpa using h2, ?_⟩
  have : (nss.map fun ns => (⟨ns.headD 0, ns.tail.headD 0⟩ : Pair)).map encP = nss.map (rowA true) := by
    rw [List.map_map]
    refine List.map_congr_left fun ns hns => ?_
    rw [two_ints (h1 ns hns)]
    rfl
  rw [this]
  exact h3

theorem four_ints : ∀ {ns : List Int}, ns.length = 4 → ∃ a b c d, ns = [a, b, c, d]
  | [a, b, c, d], _ => ⟨a, b, c, d, rfl⟩
theorem open_call {H : Type} {enc : TypeId × Value → H} {W : World} {v : Value} {d : DataW H} {p : List MemPlace} (h : DataW.Trod enc Try.prog W 0 (fun _ => true) true 24 v d p) : ∃ c : AL.Call, Rel (out W) (encC c) v := by
  obtain ⟨n, hn⟩ := h
  obtain ⟨ns, h1, h2⟩ := trod_ints (T := tyTab) (st := Try.prog.stoodInHeld) 100 24 ty24 n _ _ (by kernel_rfl) rfl hn
  obtain ⟨a, b, c, e, rfl⟩ := four_ints h2
  refine ⟨⟨a, b, c, e⟩, ?_⟩
  cases v with
  | agg x => exact ⟨x, rfl, by rw [show x.toList = intsV [a, b, c, e] from h1]; exact relL_ints _ [a, b, c, e]⟩
  | _ => simp [Value.cells, intsV] at h1

theorem own : ownKnob Try.prog.godebug = none := by kernel_rfl
theorem kids : Kids Try.prog (· < Try.prog.types.size) := kids_rows (by kernel_rfl) (by kernel_rfl)
theorem full : ∀ t e, t < Try.prog.types.size → Try.prog.underlying t = some (.slice e) → 0 < Try.prog.cellsOf e := slices_full_of _ (by kernel_rfl)

set_option maxHeartbeats 1600000 in
set_option maxRecDepth 100000 in
theorem atomicDoes_lifted (os : Os) (started : os.Started) (H : Type) (enc : TypeId × Value → H) :
    ReturnsInHanded Rows.atomicDoesRow.assume Try.checked os 3 .any (Rows.atomicDoesSpec.pre6 enc Try.prog Try.f3 Rows.atomicDoesRow.domain Rows.atomicDoesRow.apart) (Rows.atomicDoesSpec.post enc Try.prog Try.f3 Rows.atomicDoesRow.apart Rows.atomicDoesRow.fresh Rows.atomicDoesRow.handsOn Rows.atomicDoesRow.again) := by
  refine returnsInHanded_of_change (C := Try.checked) own started (by kernel_rfl) Try.func3
    (ChangeSpec.witness6 (enc := enc) (C := Try.checked) false ⟨#[], #[.slice none 0 0, .agg #[.int .i64 0, .int .i64 0, .int .i64 0, .int .i64 0]], []⟩ 8 (by kernel_rfl) (by kernel_rfl) (by kernel_rfl) (by kernel_rfl)) ?_
  intro W base args ds gs before hval0 hW _ _
  have hval : ∀ (j : Nat) t v, Try.f3.params[j]? = some t → args[j]? = some v → Value.okWide Try.prog W .any base t v := hval0
  have hW' := hW
  obtain ⟨p, q, hA0, hV, _, _, _⟩ := hW
  have hA : DataW.TrodAll enc Try.prog W 0 (fun _ => true) true Try.f3.params.toList args.toList ds p := hA0
  rw [show Try.f3.params.toList = [22, 24] from rfl] at hA
  obtain ⟨v0, v1, d0, d1, p0, p1, rfl, rfl, _, h0, h1⟩ := trodAll_two hA
  obtain ⟨m, hm, r0⟩ := open_pairs (okWide_slice Try.underlying22 (hval 0 22 v0 rfl rfl)) h0
  obtain ⟨c, r1⟩ := open_call h1
  have hgs : gs = [] := by
    cases gs with
    | nil => rfl
    | cons => cases hV
  subst hgs
  refine (law_calls (atomicDoes m c (by unfold maxLen at hm; omega)) (W := W) (args := #[v0, v1]) ⟨_, _, rfl, r0, _, _, rfl, r1, rfl⟩).mono fun e W1 ⟨he, hB⟩ => ?_
  subst he
  exact ⟨_, rfl, post_law kids full (fun t ht => by
    have : t = 22 ∨ t = 24 := by simpa using (show t ∈ [22, 24] from ht)
    rcases this with rfl | rfl <;> decide) hW' hB rfl rfl rfl rfl rfl Try.underlying4⟩

theorem atomicDoes_holds : Rows.AtomicDoesSaid :=
  OpenClaim.holds_of_wide 3 Try.f3 rfl rfl rfl rfl rfl rfl rfl ⟨rfl, rfl, rfl, rfl, rfl⟩ rfl rfl rfl rfl rfl (by kernel_rfl) Try.func3 (by kernel_rfl)
    (of_decide_eq_true (by kernel_rfl)) (by unfold Func.isWrapper; rw [if_neg (by decide +kernel)]; exact ⟨rfl, rfl⟩)
    (fun os started H enc _ => atomicDoes_lifted os started H enc)
end Go.Proofs.Ythogeodbnnfamaa
