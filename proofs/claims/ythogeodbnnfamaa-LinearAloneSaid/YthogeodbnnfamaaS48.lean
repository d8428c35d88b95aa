/-
  The claim LinearAlone: the law's contract, for every input from outside.
-/
import Derived.Test.YthogeodbnnfamaaS39
import Derived.Test.YthogeodbnnfamaaS47
import Derived.Test.YthogeodbnnfamaaRows
set_option linter.unusedVariables false
namespace Go.Proofs.Ythogeodbnnfamaa
open Go Go.AL Go.ChangeShapes Go.WideShapes Go.ChangeAt Go.RowKit

set_option maxHeartbeats 1600000 in
set_option maxRecDepth 100000 in
theorem linearAlone_lifted (os : Os) (started : os.Started) (H : Type) (enc : TypeId × Value → H) :
    ReturnsInHanded Rows.linearAloneRow.assume Try.checked os 10 .any (Rows.linearAloneSpec.pre6 enc Try.prog Try.f10 Rows.linearAloneRow.domain Rows.linearAloneRow.apart) (Rows.linearAloneSpec.post enc Try.prog Try.f10 Rows.linearAloneRow.apart Rows.linearAloneRow.fresh Rows.linearAloneRow.handsOn Rows.linearAloneRow.again) := by
  refine returnsInHanded_of_change (C := Try.checked) own started (by kernel_rfl) Try.func10
    (ChangeSpec.witness6 (enc := enc) (C := Try.checked) false ⟨#[], #[.slice none 0 0, .slice none 0 0, .int .i64 0, .agg #[.int .i64 0, .int .i64 0]], []⟩ 8 (by kernel_rfl) (by kernel_rfl) (by kernel_rfl) (by kernel_rfl)) ?_
  intro W base args ds gs before hval0 hW _ _
  have hval : ∀ (j : Nat) t v, Try.f10.params[j]? = some t → args[j]? = some v → Value.okWide Try.prog W .any base t v := hval0
  have hW' := hW
  obtain ⟨p, q, hA0, hV, _, _, _⟩ := hW
  have hA : DataW.TrodAll enc Try.prog W 0 (fun _ => true) true Try.f10.params.toList args.toList ds p := hA0
  rw [show Try.f10.params.toList = [22, 40, 3, 28] from rfl] at hA
  obtain ⟨v0, a0, d0, e0, p0, q0, ha0, rfl, hp0, h0, hA⟩ := trodAll_cons hA
  obtain ⟨v1, a1, d1, e1, p1, q1, ha1, rfl, hp1, h1, hA⟩ := trodAll_cons hA
  obtain ⟨v2, a2, d2, e2, p2, q2, ha2, rfl, hp2, h2, hA⟩ := trodAll_cons hA
  obtain ⟨v3, a3, d3, e3, p3, q3, ha3, rfl, hp3, h3, hA⟩ := trodAll_cons hA
  obtain ⟨hn, rfl, hm⟩ := trodAll_nil hA
  obtain rfl : args = #[v0, v1, v2, v3] := by cases args; simp_all
  obtain ⟨x0, b0, r0⟩ := open_pairs (okWide_slice Try.underlying22 (hval 0 22 v0 rfl rfl)) h0
  obtain ⟨x1, b1, r1⟩ := open_calls (okWide_slice Try.underlying40 (hval 1 40 v1 rfl rfl)) h1
  obtain ⟨x2, b2, r2⟩ := open_int (okWide_int Try.underlying3 (hval 2 3 v2 rfl rfl)) h2
  obtain ⟨x3, b3, r3⟩ := open_reply h3
  have hgs : gs = [] := by
    cases gs with
    | nil => rfl
    | cons => cases hV
  subst hgs
  refine (law_calls (aloneL_ok x0 x1 x2 x3 (by unfold maxLen at b0; omega) (by unfold maxLen at b1; omega)) (W := W) (args := #[v0, v1, v2, v3]) ⟨_, _, rfl, r0, _, _, rfl, r1, _, _, rfl, r2, _, _, rfl, r3, rfl⟩).mono fun e W1 ⟨he, hB⟩ => ?_
  subst he
  exact ⟨_, rfl, post_law kids full (fun t ht => of_decide_eq_true (List.all_eq_true.1 (show ([22, 40, 3, 28] : List Nat).all (fun t => decide (t < Try.prog.types.size)) = true by kernel_rfl) t ht)) hW' hB rfl rfl rfl rfl rfl Try.underlying4⟩

theorem linearAlone_holds : Rows.LinearAloneSaid :=
  OpenClaim.holds_of_wide 10 Try.f10 rfl rfl rfl rfl rfl rfl rfl ⟨rfl, rfl, rfl, rfl, rfl⟩ rfl rfl rfl rfl rfl (by kernel_rfl) Try.func10 (by kernel_rfl)
    (of_decide_eq_true (by kernel_rfl)) (by unfold Func.isWrapper; rw [if_neg (by decide +kernel)]; exact ⟨rfl, rfl⟩)
    (fun os started H enc _ => linearAlone_lifted os started H enc)
end Go.Proofs.Ythogeodbnnfamaa
