/-
  The claim UrcuMakes: the law's contract, for every input from outside, the listed variables read as listed; the row, and the tied card.
-/
import Derived.Test.YteefnlbapebamaaGreatDoorB11
import Derived.Test.YteefnlbapebamaaGreatDoorTie
import Derived.Test.YteefnlbapebamaaGreatDoorCards
import Derived.Lay
import Derived.SevenTiedAt
import Derived.Stop.Joined
set_option linter.unusedVariables false
namespace Go.Proofs.YteefnlbapebamaaGreatDoor
open Go Go.AL Go.ChangeShapes Go.WideShapes Go.ChangeAt Go.RowKit

set_option maxHeartbeats 1600000 in
set_option maxRecDepth 100000 in
theorem urcuMakes_lifted (os : Os) (started : os.Started) (H : Type) (enc : TypeId × Value → H) :
    ReturnsInHanded {} Tryz.checked os 9 .any (fun w args => (Rows.urcuMakesSpec.pre enc Tryz.prog Tryz.f9 Rows.urcuMakesRow.domain false w args ∧ laidMetH Tryz.prog Rows.urcuMakesRow.laid w) ∧ sizedMet enc Tryz.prog Tryz.f9 (OpenSpec.ofChange Rows.urcuMakesSpec) false w args)
      (Rows.urcuMakesSpec.post enc Tryz.prog Tryz.f9 false true false false) := by
  refine Go.AL.returnsInHanded_and_shaped (C := Tryz.checked) (X := fun w _ => laidMetH Tryz.prog Rows.urcuMakesRow.laid w) (fun _ _ _ hh h => h.of_heap hh) own started (by kernel_rfl) Tryz.func9
    (ChangeSpec.witness_shaped (enc := enc) (C := Tryz.checked) (os := os) (X := fun w _ => laidMetH Tryz.prog Rows.urcuMakesRow.laid w) false (laidW os) #[.int .i64 0, .slice none 0 0, .int .i64 0] 8 (laidW_os os)
      (World.shaped_of_ZipB (by kernel_rfl) (by kernel_rfl)) (by kernel_rfl) (by kernel_rfl) (by kernel_rfl)
      (laidW_met os _)) ?_
  intro W base args ds gs before hval0 hW hL hS
  obtain ⟨g, hg⟩ := gl_exists hL hS
  have hval : ∀ (j : Nat) t v, Tryz.f9.params[j]? = some t → args[j]? = some v → Value.okWide Tryz.prog W .any base t v := hval0
  have hW' := hW
  obtain ⟨p, q, hA0, hV, _, _, _⟩ := hW
  have hA : DataW.TrodAll enc Tryz.prog W 0 (fun _ => true) true Tryz.f9.params.toList args.toList ds p := hA0
  rw [show Tryz.f9.params.toList = [3, 68, 3] from rfl] at hA
  obtain ⟨v0, a0, d0, e0, p0, q0, ha0, rfl, hp0, h0, hA⟩ := trodAll_cons hA
  obtain ⟨v1, a1, d1, e1, p1, q1, ha1, rfl, hp1, h1, hA⟩ := trodAll_cons hA
  obtain ⟨v2, a2, d2, e2, p2, q2, ha2, rfl, hp2, h2, hA⟩ := trodAll_cons hA
  obtain ⟨hn, rfl, hm⟩ := trodAll_nil hA
  obtain rfl : args = #[v0, v1, v2] := by cases args; simp_all
  obtain ⟨x0, b0, r0⟩ := open_int (okWide_int Tryz.underlying3 (hval 0 3 v0 rfl rfl)) h0
  obtain ⟨x1, b1, r1⟩ := open_plans (okWide_slice Tryz.underlying68 (hval 1 68 v1 rfl rfl)) h1
  obtain ⟨x2, b2, r2⟩ := open_int (okWide_int Tryz.underlying3 (hval 2 3 v2 rfl rfl)) h2
  have hgs : gs = [] := by
    cases gs with
    | nil => rfl
    | cons => cases hV
  subst hgs
  have hc : ACalls Tryz.prog 9 [.v (.int .i64 x0), .sl (x1.map encPl), .v (.int .i64 x2)] (fixes (glx g)) (one (.v (.bool true)) (fixes (glx g))) := urm_law g x0 x1 x2
  refine (law_callsF (glx g) hc (W := W) (args := #[v0, v1, v2]) hg ⟨_, _, rfl, r0, _, _, rfl, r1, _, _, rfl, r2, rfl⟩).mono fun e W1 ⟨he, hB⟩ => ?_
  subst he
  exact ⟨_, rfl, post_law kids full (fun t ht => of_decide_eq_true (List.all_eq_true.1 (show ([3, 68, 3] : List Nat).all (fun t => decide (t < Tryz.prog.types.size)) = true by kernel_rfl) t ht)) hW' hB rfl rfl rfl rfl rfl Tryz.underlying4⟩

theorem andI {a b : Bool} (ha : a = true) (hb : b = true) : (a && b) = true := by rw [ha, hb]; rfl
set_option maxRecDepth 100000
theorem urcuMakes_j0 : (Rows.urcuMakesRow.wf (OpenSpec.ofChange Rows.urcuMakesSpec)) = true := by kernel_rfl
theorem urcuMakes_j1 : (laidOutB Tryz.prog) = true := by kernel_rfl
theorem urcuMakes_j2 : (mapsRowed Tryz.prog) = true := by kernel_rfl
theorem urcuMakes_j3 : (Tryz.f9.params.all (Tryz.prog.readableRec ·)) = true := by kernel_rfl
theorem urcuMakes_j4 : (namedTie Tryz.prog Rows.urcuMakesRow.named Rows.urcuMakesSpec.vars) = true := by kernel_rfl
theorem urcuMakes_j5 : ((Rows.urcuMakesRow.stops == [])) = true := by kernel_rfl
theorem urcuMakes_j6 : ((Tryz.prog.stops == [])) = true := by kernel_rfl
theorem urcuMakes_j7 : ((Rows.urcuMakesRow.knobs == [])) = true := by kernel_rfl
theorem urcuMakes_j8 : ((Tryz.prog.stopKnobs == [])) = true := by kernel_rfl
theorem urcuMakes_j9 : ((Rows.urcuMakesRow.inPlace == Tryz.prog.inPlace 9)) = true := by kernel_rfl
theorem urcuMakes_j10 : ((Rows.urcuMakesRow.unfollowed == Tryz.prog.unfollowed 9)) = true := by kernel_rfl
theorem urcuMakes_j11 : ((Rows.urcuMakesRow.recurses == Tryz.prog.recurses 9)) = true := by kernel_rfl
theorem urcuMakes_j12 : ((Rows.urcuMakesRow.named == Tryz.prog.varsNamed 9)) = true := by kernel_rfl
theorem urcuMakes_j13 : ((Rows.urcuMakesRow.maps == (Tryz.f9.params.toList ++ Rows.urcuMakesSpec.plain.varTypes Tryz.prog).any (Tryz.prog.mapsRec ·))) = true := by kernel_rfl
theorem urcuMakes_j14 : ((Rows.urcuMakesRow.ifaces == (Tryz.f9.params.toList ++ Rows.urcuMakesSpec.plain.varTypes Tryz.prog).any (Tryz.prog.ifacesRec ·))) = true := by kernel_rfl
theorem urcuMakes_j15 : ((Rows.urcuMakesRow.mapsOut == Tryz.prog.mapsAmong Tryz.f9.resultTypes.toList)) = true := by kernel_rfl
theorem urcuMakes_j16 : ((Rows.urcuMakesRow.loops == (Tryz.f9.params.toList ++ Rows.urcuMakesSpec.plain.varTypes Tryz.prog).any (Tryz.prog.loopsFrom ·))) = true := by kernel_rfl
theorem urcuMakes_j17 : ((Rows.urcuMakesRow.wideKeys == (Tryz.f9.params.toList ++ Rows.urcuMakesSpec.plain.varTypes Tryz.prog ++ Tryz.f9.resultTypes.toList).any (Tryz.prog.wideKeysFrom ·))) = true := by kernel_rfl
theorem urcuMakes_j18 : (Rows.urcuMakesSpec.vars.all (Tryz.prog.varReadable ·)) = true := by kernel_rfl
theorem urcuMakes_j19 : (Tryz.f9.resultTypes.all (fun t => Tryz.prog.readableRec t && decide (t < Tryz.prog.types.size))) = true := by kernel_rfl
theorem urcuMakes_j20 : ((Rows.urcuMakesRow.ifacesOut == Tryz.f9.resultTypes.toList.any (Tryz.prog.ifacesRec ·))) = true := by kernel_rfl
theorem urcuMakes_j21 : ((Rows.urcuMakesRow.loopsOut == Tryz.f9.resultTypes.toList.any (Tryz.prog.loopsFrom ·))) = true := by kernel_rfl
theorem urcuMakes_j22 : ((Rows.urcuMakesRow.plainKeys == Tryz.prog.plainKeys)) = true := by kernel_rfl
theorem urcuMakes_j23 : (Rows.urcuMakesRow.shortTexts.isNone) = true := by kernel_rfl
theorem urcuMakes_j24 : (Tryz.prog.stopsHeard) = true := by kernel_rfl
theorem urcuMakes_j25 : (Tryz.prog.mayEnter) = true := by kernel_rfl
theorem urcuMakes_j26 : ((Rows.urcuMakesRow.lifted == Tryz.prog.liftsFinal)) = true := by kernel_rfl
theorem urcuMakes_j27 : ((Tryz.prog.make == some Rows.urcuMakesRow.make)) = true := by kernel_rfl
theorem urcuMakes_j28 : ((Rows.urcuMakesRow.kinds == (if Rows.urcuMakesRow.domain.isEmpty then [] else Tryz.f9.params.toList.map fun t => match Tryz.prog.underlying t with | some (.int k) => some k | _ => none))) = true := by kernel_rfl
theorem urcuMakes_j29 : ((Rows.urcuMakesRow.pinned == Rows.urcuMakesRow.pinnedBy)) = true := by kernel_rfl
theorem urcuMakes_j30 : ((Rows.urcuMakesRow.veiled == (Tryz.f9.params.toList ++ Rows.urcuMakesSpec.plain.varTypes Tryz.prog ++ Tryz.f9.resultTypes.toList).any (Tryz.prog.veiledRec ·))) = true := by kernel_rfl
theorem urcuMakes_j31 : (Rows.urcuMakesRow.veiledFits Tryz.prog Tryz.f9.params.toList (Tryz.f9.params.toList ++ Rows.urcuMakesSpec.plain.varTypes Tryz.prog ++ Tryz.f9.resultTypes.toList)) = true := by kernel_rfl
theorem urcuMakes_facts : joinedFacts Tryz.prog 9 Tryz.f9 Rows.urcuMakesSpec Rows.urcuMakesRow = true := by
  unfold joinedFacts
  exact andI (andI (andI (andI (andI (andI (andI (andI (andI (andI (andI (andI (andI (andI (andI (andI (andI (andI (andI (andI (andI (andI (andI (andI (andI (andI (andI (andI (andI (andI (andI urcuMakes_j0 urcuMakes_j1) urcuMakes_j2) urcuMakes_j3) urcuMakes_j4) urcuMakes_j5) urcuMakes_j6) urcuMakes_j7) urcuMakes_j8) urcuMakes_j9) urcuMakes_j10) urcuMakes_j11) urcuMakes_j12) urcuMakes_j13) urcuMakes_j14) urcuMakes_j15) urcuMakes_j16) urcuMakes_j17) urcuMakes_j18) urcuMakes_j19) urcuMakes_j20) urcuMakes_j21) urcuMakes_j22) urcuMakes_j23) urcuMakes_j24) urcuMakes_j25) urcuMakes_j26) urcuMakes_j27) urcuMakes_j28) urcuMakes_j29) urcuMakes_j30) urcuMakes_j31
theorem urcuMakes_holds : Rows.UrcuMakesSaid :=
  OpenClaim.holds_of_wide 9 Tryz.f9 rfl rfl rfl rfl rfl rfl rfl ⟨rfl, rfl, rfl, rfl, rfl⟩ rfl rfl rfl rfl rfl (by kernel_rfl) Tryz.func9 urcuMakes_facts
    (of_decide_eq_true (by kernel_rfl)) (by unfold Func.isWrapper; first | (rw [if_pos (by decide +kernel)]; kernel_rfl) | (rw [if_neg (by decide +kernel)]; exact ⟨rfl, rfl⟩))
    (fun os started H enc _ => urcuMakes_lifted os started H enc)
theorem urcuMakes_plain (f : FuncId) (fn : Func) (hf : Tryz.pinned.checked.prog.funcNamed "respite/respitelaw16.UrcuMakes" = some f) (hfn : Tryz.pinned.checked.prog.funcs[f]? = some fn) :
    true = Tryz.pinned.checked.prog.looks [] ∧ ∀ (j : Nat) t, fn.params[j]? = some t → Tryz.pinned.checked.prog.wantsStandIn t = false := by
  obtain rfl : f = 9 := Option.some.inj ((show Tryz.prog.funcNamed "respite/respitelaw16.UrcuMakes" = some 9 by kernel_rfl).symm.trans hf) |>.symm
  obtain rfl : fn = Tryz.f9 := (Option.some.inj (Tryz.func9.symm.trans hfn)).symm
  refine ⟨by kernel_rfl, fun j t ht => ?_⟩
  have hm : t ∈ ([3, 68, 3] : List Nat) := by simpa [show Tryz.f9.params.toList = [3, 68, 3] from rfl] using Array.mem_of_getElem? ht
  have hall : (([3, 68, 3] : List Nat).all fun u => !Tryz.prog.wantsStandIn u) = true := by kernel_rfl
  show Tryz.prog.wantsStandIn t = false
  simpa using List.all_eq_true.1 hall t hm
theorem urcuMakes_card : Rows.UrcuMakesCardSaid :=
  Claim7.holds_tied_plain_at .later [] _ _ _ _ urcuMakes_holds (fun _ h => by cases h) (by kernel_rfl) (fun _ h => by cases h) urcuMakes_row_tie rfl ⟨rfl, rfl⟩ (by kernel_rfl) rfl urcuMakes_plain (by kernel_rfl)
end Go.Proofs.YteefnlbapebamaaGreatDoor
