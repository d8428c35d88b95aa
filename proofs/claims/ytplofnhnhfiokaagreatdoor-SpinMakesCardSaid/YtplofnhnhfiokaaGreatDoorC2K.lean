/-
  The claim SpinMakes: the law's contract, for every input from outside, the listed variables read as listed; the row, and the tied card.
-/
import Derived.Test.YtplofnhnhfiokaaGreatDoorY11
import Derived.Test.YtplofnhnhfiokaaGreatDoorTie
import Derived.Test.YtplofnhnhfiokaaGreatDoorCards
import Derived.Lay
import Derived.SevenTiedAt
import Derived.Stop.Joined
set_option linter.unusedVariables false
namespace Go.Proofs.YtplofnhnhfiokaaGreatDoor
open Go Go.AL Go.ChangeShapes Go.WideShapes Go.ChangeAt Go.RowKit

set_option maxHeartbeats 1600000 in
set_option maxRecDepth 100000 in
theorem spinMakes_lifted (os : Os) (started : os.Started) (H : Type) (enc : TypeId × Value → H) :
    ReturnsInHanded {} Tryz.checked os 6 .any (fun w args => (Rows.spinMakesSpec.pre enc Tryz.prog Tryz.f6 Rows.spinMakesRow.domain false w args ∧ laidMetH Tryz.prog Rows.spinMakesRow.laid w) ∧ sizedMet enc Tryz.prog Tryz.f6 (OpenSpec.ofChange Rows.spinMakesSpec) false w args)
      (Rows.spinMakesSpec.post enc Tryz.prog Tryz.f6 false true false false) := by
  refine Go.AL.returnsInHanded_and_shaped (C := Tryz.checked) (X := fun w _ => laidMetH Tryz.prog Rows.spinMakesRow.laid w) (fun _ _ _ hh h => h.of_heap hh) own started (by kernel_rfl) Tryz.func6
    (ChangeSpec.witness_shaped (enc := enc) (C := Tryz.checked) (os := os) (X := fun w _ => laidMetH Tryz.prog Rows.spinMakesRow.laid w) false (laidW os) #[.slice none 0 0, .int .i64 0] 8 (laidW_os os)
      (World.shaped_of_ZipB (by kernel_rfl) (by kernel_rfl)) (by kernel_rfl) (by kernel_rfl) (by kernel_rfl)
      (laidW_met os _)) ?_
  intro W base args ds gs before hval0 hW hL hS
  obtain ⟨g, hg⟩ := gl_exists hL hS
  have hval : ∀ (j : Nat) t v, Tryz.f6.params[j]? = some t → args[j]? = some v → Value.okWide Tryz.prog W .any base t v := hval0
  have hW' := hW
  obtain ⟨p, q, hA0, hV, _, _, _⟩ := hW
  have hA : DataW.TrodAll enc Tryz.prog W 0 (fun _ => true) true Tryz.f6.params.toList args.toList ds p := hA0
  rw [show Tryz.f6.params.toList = [23, 3] from rfl] at hA
  obtain ⟨v0, a0, d0, e0, p0, q0, ha0, rfl, hp0, h0, hA⟩ := trodAll_cons hA
  obtain ⟨v1, a1, d1, e1, p1, q1, ha1, rfl, hp1, h1, hA⟩ := trodAll_cons hA
  obtain ⟨hn, rfl, hm⟩ := trodAll_nil hA
  obtain rfl : args = #[v0, v1] := by cases args; simp_all
  obtain ⟨x0, b0, r0⟩ := open_ints (okWide_slice Tryz.underlying23 (hval 0 23 v0 rfl rfl)) h0
  obtain ⟨x1, b1, r1⟩ := open_int (okWide_int Tryz.underlying3 (hval 1 3 v1 rfl rfl)) h1
  have hgs : gs = [] := by
    cases gs with
    | nil => rfl
    | cons => cases hV
  subst hgs
  have hc : ACalls Tryz.prog 6 [ivs x0, .v (.int .i64 x1)] (fixes (glx g)) (one (.v (.bool true)) (fixes (glx g))) := spm_law g x0 x1
  refine (law_callsF (glx g) hc (W := W) (args := #[v0, v1]) hg ⟨_, _, rfl, r0, _, _, rfl, r1, rfl⟩).mono fun e W1 ⟨he, hB⟩ => ?_
  subst he
  exact ⟨_, rfl, post_law kids full (fun t ht => of_decide_eq_true (List.all_eq_true.1 (show ([23, 3] : List Nat).all (fun t => decide (t < Tryz.prog.types.size)) = true by kernel_rfl) t ht)) hW' hB rfl rfl rfl rfl rfl Tryz.underlying4⟩

theorem andI {a b : Bool} (ha : a = true) (hb : b = true) : (a && b) = true := by rw [ha, hb]; rfl
set_option maxRecDepth 100000
theorem spinMakes_j0 : (Rows.spinMakesRow.wf (OpenSpec.ofChange Rows.spinMakesSpec)) = true := by kernel_rfl
theorem spinMakes_j1 : (laidOutB Tryz.prog) = true := by kernel_rfl
theorem spinMakes_j2 : (mapsRowed Tryz.prog) = true := by kernel_rfl
theorem spinMakes_j3 : (Tryz.f6.params.all (Tryz.prog.readableRec ·)) = true := by kernel_rfl
theorem spinMakes_j4 : (namedTie Tryz.prog Rows.spinMakesRow.named Rows.spinMakesSpec.vars) = true := by kernel_rfl
theorem spinMakes_j5 : ((Rows.spinMakesRow.stops == [])) = true := by kernel_rfl
theorem spinMakes_j6 : ((Tryz.prog.stops == [])) = true := by kernel_rfl
theorem spinMakes_j7 : ((Rows.spinMakesRow.knobs == [])) = true := by kernel_rfl
theorem spinMakes_j8 : ((Tryz.prog.stopKnobs == [])) = true := by kernel_rfl
theorem spinMakes_j9 : ((Rows.spinMakesRow.inPlace == Tryz.prog.inPlace 6)) = true := by kernel_rfl
theorem spinMakes_j10 : ((Rows.spinMakesRow.unfollowed == Tryz.prog.unfollowed 6)) = true := by kernel_rfl
theorem spinMakes_j11 : ((Rows.spinMakesRow.recurses == Tryz.prog.recurses 6)) = true := by kernel_rfl
theorem spinMakes_j12 : ((Rows.spinMakesRow.named == Tryz.prog.varsNamed 6)) = true := by kernel_rfl
theorem spinMakes_j13 : ((Rows.spinMakesRow.maps == (Tryz.f6.params.toList ++ Rows.spinMakesSpec.plain.varTypes Tryz.prog).any (Tryz.prog.mapsRec ·))) = true := by kernel_rfl
theorem spinMakes_j14 : ((Rows.spinMakesRow.ifaces == (Tryz.f6.params.toList ++ Rows.spinMakesSpec.plain.varTypes Tryz.prog).any (Tryz.prog.ifacesRec ·))) = true := by kernel_rfl
theorem spinMakes_j15 : ((Rows.spinMakesRow.mapsOut == Tryz.prog.mapsAmong Tryz.f6.resultTypes.toList)) = true := by kernel_rfl
theorem spinMakes_j16 : ((Rows.spinMakesRow.loops == (Tryz.f6.params.toList ++ Rows.spinMakesSpec.plain.varTypes Tryz.prog).any (Tryz.prog.loopsFrom ·))) = true := by kernel_rfl
theorem spinMakes_j17 : ((Rows.spinMakesRow.wideKeys == (Tryz.f6.params.toList ++ Rows.spinMakesSpec.plain.varTypes Tryz.prog ++ Tryz.f6.resultTypes.toList).any (Tryz.prog.wideKeysFrom ·))) = true := by kernel_rfl
theorem spinMakes_j18 : (Rows.spinMakesSpec.vars.all (Tryz.prog.varReadable ·)) = true := by kernel_rfl
theorem spinMakes_j19 : (Tryz.f6.resultTypes.all (fun t => Tryz.prog.readableRec t && decide (t < Tryz.prog.types.size))) = true := by kernel_rfl
theorem spinMakes_j20 : ((Rows.spinMakesRow.ifacesOut == Tryz.f6.resultTypes.toList.any (Tryz.prog.ifacesRec ·))) = true := by kernel_rfl
theorem spinMakes_j21 : ((Rows.spinMakesRow.loopsOut == Tryz.f6.resultTypes.toList.any (Tryz.prog.loopsFrom ·))) = true := by kernel_rfl
theorem spinMakes_j22 : ((Rows.spinMakesRow.plainKeys == Tryz.prog.plainKeys)) = true := by kernel_rfl
theorem spinMakes_j23 : (Rows.spinMakesRow.shortTexts.isNone) = true := by kernel_rfl
theorem spinMakes_j24 : (Tryz.prog.stopsHeard) = true := by kernel_rfl
theorem spinMakes_j25 : (Tryz.prog.mayEnter) = true := by kernel_rfl
theorem spinMakes_j26 : ((Rows.spinMakesRow.lifted == Tryz.prog.liftsFinal)) = true := by kernel_rfl
theorem spinMakes_j27 : ((Tryz.prog.make == some Rows.spinMakesRow.make)) = true := by kernel_rfl
theorem spinMakes_j28 : ((Rows.spinMakesRow.kinds == (if Rows.spinMakesRow.domain.isEmpty then [] else Tryz.f6.params.toList.map fun t => match Tryz.prog.underlying t with | some (.int k) => some k | _ => none))) = true := by kernel_rfl
theorem spinMakes_j29 : ((Rows.spinMakesRow.pinned == Rows.spinMakesRow.pinnedBy)) = true := by kernel_rfl
theorem spinMakes_j30 : ((Rows.spinMakesRow.veiled == (Tryz.f6.params.toList ++ Rows.spinMakesSpec.plain.varTypes Tryz.prog ++ Tryz.f6.resultTypes.toList).any (Tryz.prog.veiledRec ·))) = true := by kernel_rfl
theorem spinMakes_j31 : (Rows.spinMakesRow.veiledFits Tryz.prog Tryz.f6.params.toList (Tryz.f6.params.toList ++ Rows.spinMakesSpec.plain.varTypes Tryz.prog ++ Tryz.f6.resultTypes.toList)) = true := by kernel_rfl
theorem spinMakes_facts : joinedFacts Tryz.prog 6 Tryz.f6 Rows.spinMakesSpec Rows.spinMakesRow = true := by
  unfold joinedFacts
  exact andI (andI (andI (andI (andI (andI (andI (andI (andI (andI (andI (andI (andI (andI (andI (andI (andI (andI (andI (andI (andI (andI (andI (andI (andI (andI (andI (andI (andI (andI (andI spinMakes_j0 spinMakes_j1) spinMakes_j2) spinMakes_j3) spinMakes_j4) spinMakes_j5) spinMakes_j6) spinMakes_j7) spinMakes_j8) spinMakes_j9) spinMakes_j10) spinMakes_j11) spinMakes_j12) spinMakes_j13) spinMakes_j14) spinMakes_j15) spinMakes_j16) spinMakes_j17) spinMakes_j18) spinMakes_j19) spinMakes_j20) spinMakes_j21) spinMakes_j22) spinMakes_j23) spinMakes_j24) spinMakes_j25) spinMakes_j26) spinMakes_j27) spinMakes_j28) spinMakes_j29) spinMakes_j30) spinMakes_j31
theorem spinMakes_holds : Rows.SpinMakesSaid :=
  OpenClaim.holds_of_wide 6 Tryz.f6 rfl rfl rfl rfl rfl rfl rfl ⟨rfl, rfl, rfl, rfl, rfl⟩ rfl rfl rfl rfl rfl (by kernel_rfl) Tryz.func6 spinMakes_facts
    (of_decide_eq_true (by kernel_rfl)) (by unfold Func.isWrapper; first | (rw [if_pos (by decide +kernel)]; kernel_rfl) | (rw [if_neg (by decide +kernel)]; exact ⟨rfl, rfl⟩))
    (fun os started H enc _ => spinMakes_lifted os started H enc)
theorem spinMakes_plain (f : FuncId) (fn : Func) (hf : Tryz.pinned.checked.prog.funcNamed "respite/respitelaw11.SpinMakes" = some f) (hfn : Tryz.pinned.checked.prog.funcs[f]? = some fn) :
    true = Tryz.pinned.checked.prog.looks [] ∧ ∀ (j : Nat) t, fn.params[j]? = some t → Tryz.pinned.checked.prog.wantsStandIn t = false := by
  obtain rfl : f = 6 := Option.some.inj ((show Tryz.prog.funcNamed "respite/respitelaw11.SpinMakes" = some 6 by kernel_rfl).symm.trans hf) |>.symm
  obtain rfl : fn = Tryz.f6 := (Option.some.inj (Tryz.func6.symm.trans hfn)).symm
  refine ⟨by kernel_rfl, fun j t ht => ?_⟩
  have hm : t ∈ ([23, 3] : List Nat) := by simpa [show Tryz.f6.params.toList = [23, 3] from rfl] using Array.mem_of_getElem? ht
  have hall : (([23, 3] : List Nat).all fun u => !Tryz.prog.wantsStandIn u) = true := by kernel_rfl
  show Tryz.prog.wantsStandIn t = false
  simpa using List.all_eq_true.1 hall t hm
theorem spinMakes_card : Rows.SpinMakesCardSaid :=
  Claim7.holds_tied_plain_at .later [] _ _ _ _ spinMakes_holds (fun _ h => by cases h) (by kernel_rfl) (fun _ h => by cases h) spinMakes_row_tie rfl ⟨rfl, rfl⟩ (by kernel_rfl) rfl spinMakes_plain (by kernel_rfl)
end Go.Proofs.YtplofnhnhfiokaaGreatDoor
