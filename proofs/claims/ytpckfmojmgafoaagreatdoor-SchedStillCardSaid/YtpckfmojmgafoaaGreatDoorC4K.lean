/-
  The claim SchedStill: the law's contract, for every input from outside, the listed variables read as listed; the row, and the tied card.
-/
import Derived.Test.YtpckfmojmgafoaaGreatDoorQ12
import Derived.Test.YtpckfmojmgafoaaGreatDoorTie
import Derived.Test.YtpckfmojmgafoaaGreatDoorCards
import Derived.Lay
import Derived.SevenTiedAt
import Derived.Stop.Joined
set_option linter.unusedVariables false
namespace Go.Proofs.YtpckfmojmgafoaaGreatDoor
open Go Go.AL Go.ChangeShapes Go.WideShapes Go.ChangeAt Go.RowKit

set_option maxHeartbeats 1600000 in
set_option maxRecDepth 100000 in
theorem schedStill_lifted (os : Os) (started : os.Started) (H : Type) (enc : TypeId × Value → H) :
    ReturnsInHanded {} Tryz.checked os 7 .any (fun w args => (Rows.schedStillSpec.pre enc Tryz.prog Tryz.f7 Rows.schedStillRow.domain false w args ∧ laidMetH Tryz.prog Rows.schedStillRow.laid w) ∧ sizedMet enc Tryz.prog Tryz.f7 (OpenSpec.ofChange Rows.schedStillSpec) false w args)
      (Rows.schedStillSpec.post enc Tryz.prog Tryz.f7 false true false false) := by
  refine Go.AL.returnsInHanded_and_shaped (C := Tryz.checked) (X := fun w _ => laidMetH Tryz.prog Rows.schedStillRow.laid w) (fun _ _ _ hh h => h.of_heap hh) own started (by kernel_rfl) Tryz.func7
    (ChangeSpec.witness_shaped (enc := enc) (C := Tryz.checked) (os := os) (X := fun w _ => laidMetH Tryz.prog Rows.schedStillRow.laid w) false (laidW os) #[.slice none 0 0, .slice none 0 0, .slice none 0 0, .slice none 0 0, .int .i64 0, .int .i64 0, .slice none 0 0] 8 (laidW_os os)
      (World.shaped_of_ZipB (by kernel_rfl) (by kernel_rfl)) (by kernel_rfl) (by kernel_rfl) (by kernel_rfl)
      (laidW_met os _)) ?_
  intro W base args ds gs before hval0 hW hL hS
  obtain ⟨g, hg⟩ := gl_exists hL hS
  have hval : ∀ (j : Nat) t v, Tryz.f7.params[j]? = some t → args[j]? = some v → Value.okWide Tryz.prog W .any base t v := hval0
  have hW' := hW
  obtain ⟨p, q, hA0, hV, _, _, _⟩ := hW
  have hA : DataW.TrodAll enc Tryz.prog W 0 (fun _ => true) true Tryz.f7.params.toList args.toList ds p := hA0
  rw [show Tryz.f7.params.toList = [26, 23, 23, 23, 3, 3, 46] from rfl] at hA
  obtain ⟨v0, a0, d0, e0, p0, q0, ha0, rfl, hp0, h0, hA⟩ := trodAll_cons hA
  obtain ⟨v1, a1, d1, e1, p1, q1, ha1, rfl, hp1, h1, hA⟩ := trodAll_cons hA
  obtain ⟨v2, a2, d2, e2, p2, q2, ha2, rfl, hp2, h2, hA⟩ := trodAll_cons hA
  obtain ⟨v3, a3, d3, e3, p3, q3, ha3, rfl, hp3, h3, hA⟩ := trodAll_cons hA
  obtain ⟨v4, a4, d4, e4, p4, q4, ha4, rfl, hp4, h4, hA⟩ := trodAll_cons hA
  obtain ⟨v5, a5, d5, e5, p5, q5, ha5, rfl, hp5, h5, hA⟩ := trodAll_cons hA
  obtain ⟨v6, a6, d6, e6, p6, q6, ha6, rfl, hp6, h6, hA⟩ := trodAll_cons hA
  obtain ⟨hn, rfl, hm⟩ := trodAll_nil hA
  obtain rfl : args = #[v0, v1, v2, v3, v4, v5, v6] := by cases args; simp_all
  obtain ⟨x0, b0, r0⟩ := open_instrs (okWide_slice Tryz.underlying26 (hval 0 26 v0 rfl rfl)) h0
  obtain ⟨x1, b1, r1⟩ := open_ints (okWide_slice Tryz.underlying23 (hval 1 23 v1 rfl rfl)) h1
  obtain ⟨x2, b2, r2⟩ := open_ints (okWide_slice Tryz.underlying23 (hval 2 23 v2 rfl rfl)) h2
  obtain ⟨x3, b3, r3⟩ := open_ints (okWide_slice Tryz.underlying23 (hval 3 23 v3 rfl rfl)) h3
  obtain ⟨x4, b4, r4⟩ := open_int (okWide_int Tryz.underlying3 (hval 4 3 v4 rfl rfl)) h4
  obtain ⟨x5, b5, r5⟩ := open_int (okWide_int Tryz.underlying3 (hval 5 3 v5 rfl rfl)) h5
  obtain ⟨x6, b6, r6⟩ := open_acts (okWide_slice Tryz.underlying46 (hval 6 46 v6 rfl rfl)) h6
  have hgs : gs = [] := by
    cases gs with
    | nil => rfl
    | cons => cases hV
  subst hgs
  have hc : ACalls Tryz.prog 7 [encIs x0, ivs x1, ivs x2, ivs x3, .v (.int .i64 x4), .v (.int .i64 x5), .sl (x6.map encAct)] (fixes (glx g)) (one (.v (.bool true)) (fixes (glx g))) := still_ok g x0 x1 x2 x3 x4 x5 x6
  refine (law_callsF (glx g) hc (W := W) (args := #[v0, v1, v2, v3, v4, v5, v6]) hg ⟨_, _, rfl, r0, _, _, rfl, r1, _, _, rfl, r2, _, _, rfl, r3, _, _, rfl, r4, _, _, rfl, r5, _, _, rfl, r6, rfl⟩).mono fun e W1 ⟨he, hB⟩ => ?_
  subst he
  exact ⟨_, rfl, post_law kids full (fun t ht => of_decide_eq_true (List.all_eq_true.1 (show ([26, 23, 23, 23, 3, 3, 46] : List Nat).all (fun t => decide (t < Tryz.prog.types.size)) = true by kernel_rfl) t ht)) hW' hB rfl rfl rfl rfl rfl Tryz.underlying4⟩

theorem schedStill_holds : Rows.SchedStillSaid :=
  OpenClaim.holds_of_wide 7 Tryz.f7 rfl rfl rfl rfl rfl rfl rfl ⟨rfl, rfl, rfl, rfl, rfl⟩ rfl rfl rfl rfl rfl (by kernel_rfl) Tryz.func7 (by kernel_rfl)
    (of_decide_eq_true (by kernel_rfl)) (by unfold Func.isWrapper; first | (rw [if_pos (by decide +kernel)]; kernel_rfl) | (rw [if_neg (by decide +kernel)]; exact ⟨rfl, rfl⟩))
    (fun os started H enc _ => schedStill_lifted os started H enc)
theorem schedStill_plain (f : FuncId) (fn : Func) (hf : Tryz.pinned.checked.prog.funcNamed "respite/respitelaw09.SchedStill" = some f) (hfn : Tryz.pinned.checked.prog.funcs[f]? = some fn) :
    true = Tryz.pinned.checked.prog.looks [] ∧ ∀ (j : Nat) t, fn.params[j]? = some t → Tryz.pinned.checked.prog.wantsStandIn t = false := by
  obtain rfl : f = 7 := Option.some.inj ((show Tryz.prog.funcNamed "respite/respitelaw09.SchedStill" = some 7 by kernel_rfl).symm.trans hf) |>.symm
  obtain rfl : fn = Tryz.f7 := (Option.some.inj (Tryz.func7.symm.trans hfn)).symm
  refine ⟨by kernel_rfl, fun j t ht => ?_⟩
  have hm : t ∈ ([26, 23, 23, 23, 3, 3, 46] : List Nat) := by simpa [show Tryz.f7.params.toList = [26, 23, 23, 23, 3, 3, 46] from rfl] using Array.mem_of_getElem? ht
  have hall : (([26, 23, 23, 23, 3, 3, 46] : List Nat).all fun u => !Tryz.prog.wantsStandIn u) = true := by kernel_rfl
  show Tryz.prog.wantsStandIn t = false
  simpa using List.all_eq_true.1 hall t hm
theorem schedStill_card : Rows.SchedStillCardSaid :=
  Claim7.holds_tied_plain_at .later [] _ _ _ _ schedStill_holds (fun _ h => by cases h) (by kernel_rfl) (fun _ h => by cases h) schedStill_row_tie rfl ⟨rfl, rfl⟩ (by kernel_rfl) rfl schedStill_plain (by kernel_rfl)
end Go.Proofs.YtpckfmojmgafoaaGreatDoor
