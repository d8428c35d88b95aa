/-
  The claim AsmPrints: the law's contract, for every input from outside, the listed variables read as listed; the row, and the tied card.
-/
import Derived.Test.YtaoiflliakjhdaaDoorW14
import Derived.Test.YtaoiflliakjhdaaDoorC00
import Derived.Test.YtaoiflliakjhdaaDoorC0
import Derived.Test.YtaoiflliakjhdaaDoorTie
import Derived.Test.YtaoiflliakjhdaaDoorCards
import Derived.Lay
import Derived.SevenTiedAt
import Derived.Stop.Joined
set_option linter.unusedVariables false
namespace Go.Proofs.YtaoiflliakjhdaaDoor
open Go Go.AL Go.ChangeShapes Go.WideShapes Go.ChangeAt Go.RowKit

set_option maxHeartbeats 1600000 in
set_option maxRecDepth 100000 in
theorem asmPrints_lifted (os : Os) (started : os.Started) (H : Type) (enc : TypeId × Value → H) :
    ReturnsInHanded {} Tryd.checked os 6 .any (fun w args => (Rows.asmPrintsSpec.pre enc Tryd.prog Tryd.f6 Rows.asmPrintsRow.domain false w args ∧ laidMetH Tryd.prog Rows.asmPrintsRow.laid w) ∧ sizedMet enc Tryd.prog Tryd.f6 (OpenSpec.ofChange Rows.asmPrintsSpec) false w args)
      (Rows.asmPrintsSpec.post enc Tryd.prog Tryd.f6 false true false false) := by
  refine Go.AL.returnsInHanded_and_shaped (C := Tryd.checked) (X := fun w _ => laidMetH Tryd.prog Rows.asmPrintsRow.laid w) (fun _ _ _ hh h => h.of_heap hh) own started (by kernel_rfl) Tryd.func6
    (ChangeSpec.witness_shaped (enc := enc) (C := Tryd.checked) (os := os) (X := fun w _ => laidMetH Tryd.prog Rows.asmPrintsRow.laid w) false (World.laidAll Tryd.prog os Rows.asmPrintsRow.laid) #[.slice none 0 0] 8 (World.laidAll_os _ _ _)
      (World.shaped_of_ZipB (by kernel_rfl) (by kernel_rfl)) (by kernel_rfl) (by kernel_rfl) (by kernel_rfl)
      (by rw [MakeChecks.laidMetH_plain _ _ _ (by kernel_rfl)]; exact laidMet_laidAll _ (by kernel_rfl) (by kernel_rfl))) ?_
  intro W base args ds gs before hval0 hW hL hS
  obtain ⟨g, hg⟩ := gl_exists hL hS
  have hval : ∀ (j : Nat) t v, Tryd.f6.params[j]? = some t → args[j]? = some v → Value.okWide Tryd.prog W .any base t v := hval0
  have hW' := hW
  obtain ⟨p, q, hA0, hV, _, _, _⟩ := hW
  have hA : DataW.TrodAll enc Tryd.prog W 0 (fun _ => true) true Tryd.f6.params.toList args.toList ds p := hA0
  rw [show Tryd.f6.params.toList = [23] from rfl] at hA
  obtain ⟨v0, a0, d0, e0, p0, q0, ha0, rfl, hp0, h0, hA⟩ := trodAll_cons hA
  obtain ⟨hn, rfl, hm⟩ := trodAll_nil hA
  obtain rfl : args = #[v0] := by cases args; simp_all
  obtain ⟨x0, b0, r0⟩ := open_instrs (okWide_slice Tryd.underlying23 (hval 0 23 v0 rfl rfl)) h0
  have hgs : gs = [] := by
    cases gs with
    | nil => rfl
    | cons => cases hV
  subst hgs
  have hc : ACalls Tryd.prog 6 [encIs x0] (fixes (glx g)) (one (.v (.bool true)) (fixes (glx g))) := prints_ok g x0 (by unfold maxLen at b0; omega)
  refine (law_callsF (glx g) hc (W := W) (args := #[v0]) hg ⟨_, _, rfl, r0, rfl⟩).mono fun e W1 ⟨he, hB⟩ => ?_
  subst he
  exact ⟨_, rfl, post_law kids full (fun t ht => of_decide_eq_true (List.all_eq_true.1 (show ([23] : List Nat).all (fun t => decide (t < Tryd.prog.types.size)) = true by kernel_rfl) t ht)) hW' hB rfl rfl rfl rfl rfl Tryd.underlying4⟩

theorem asmPrints_holds : Rows.AsmPrintsSaid :=
  OpenClaim.holds_of_wide 6 Tryd.f6 rfl rfl rfl rfl rfl rfl rfl ⟨rfl, rfl, rfl, rfl, rfl⟩ rfl rfl rfl rfl rfl (by kernel_rfl) Tryd.func6 (by kernel_rfl)
    (of_decide_eq_true (by kernel_rfl)) (by unfold Func.isWrapper; first | (rw [if_pos (by decide +kernel)]; kernel_rfl) | (rw [if_neg (by decide +kernel)]; exact ⟨rfl, rfl⟩))
    (fun os started H enc _ => asmPrints_lifted os started H enc)
theorem asmPrints_plain (f : FuncId) (fn : Func) (hf : Tryd.pinned.checked.prog.funcNamed "respite/respitelaw05.AsmPrints" = some f) (hfn : Tryd.pinned.checked.prog.funcs[f]? = some fn) :
    true = Tryd.pinned.checked.prog.looks [] ∧ ∀ (j : Nat) t, fn.params[j]? = some t → Tryd.pinned.checked.prog.wantsStandIn t = false := by
  obtain rfl : f = 6 := Option.some.inj ((show Tryd.prog.funcNamed "respite/respitelaw05.AsmPrints" = some 6 by kernel_rfl).symm.trans hf) |>.symm
  obtain rfl : fn = Tryd.f6 := (Option.some.inj (Tryd.func6.symm.trans hfn)).symm
  refine ⟨by kernel_rfl, fun j t ht => ?_⟩
  have hm : t ∈ ([23] : List Nat) := by simpa [show Tryd.f6.params.toList = [23] from rfl] using Array.mem_of_getElem? ht
  have hall : (([23] : List Nat).all fun u => !Tryd.prog.wantsStandIn u) = true := by kernel_rfl
  show Tryd.prog.wantsStandIn t = false
  simpa using List.all_eq_true.1 hall t hm
theorem asmPrints_card : Rows.AsmPrintsCardSaid :=
  Claim7.holds_tied_plain_at .later [] _ _ _ _ asmPrints_holds (fun _ h => by cases h) (by kernel_rfl) (fun _ h => by cases h) asmPrints_row_tie rfl ⟨rfl, rfl⟩ (by kernel_rfl) rfl asmPrints_plain (by kernel_rfl)
end Go.Proofs.YtaoiflliakjhdaaDoor
