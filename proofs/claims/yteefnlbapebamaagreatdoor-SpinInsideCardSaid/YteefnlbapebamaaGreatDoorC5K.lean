/-
  The claim SpinInside: the law's contract, for every input from outside, the listed variables read as listed; the row, and the tied card.
-/
import Derived.Test.YteefnlbapebamaaGreatDoorA11
import Derived.Test.YteefnlbapebamaaGreatDoorTie
import Derived.Test.YteefnlbapebamaaGreatDoorCards
import Derived.Lay
import Derived.SevenTiedAt
import Derived.Stop.Joined
set_option linter.unusedVariables false
namespace Go.Proofs.YteefnlbapebamaaGreatDoor
open Go Go.AL Go.ChangeShapes Go.WideShapes Go.ChangeAt Go.RowKit

set_option maxHeartbeats 1600000 in
set_option maxRecDepth 100000 in
theorem spinInside_lifted (os : Os) (started : os.Started) (H : Type) (enc : TypeId × Value → H) :
    ReturnsInHanded {} Tryz.checked os 4 .any (fun w args => (Rows.spinInsideSpec.pre enc Tryz.prog Tryz.f4 Rows.spinInsideRow.domain false w args ∧ laidMetH Tryz.prog Rows.spinInsideRow.laid w) ∧ sizedMet enc Tryz.prog Tryz.f4 (OpenSpec.ofChange Rows.spinInsideSpec) false w args)
      (Rows.spinInsideSpec.post enc Tryz.prog Tryz.f4 false true false false) := by
  refine Go.AL.returnsInHanded_and_shaped (C := Tryz.checked) (X := fun w _ => laidMetH Tryz.prog Rows.spinInsideRow.laid w) (fun _ _ _ hh h => h.of_heap hh) own started (by kernel_rfl) Tryz.func4
    (ChangeSpec.witness_shaped (enc := enc) (C := Tryz.checked) (os := os) (X := fun w _ => laidMetH Tryz.prog Rows.spinInsideRow.laid w) false (laidW os) #[.slice none 0 0, .int .i64 0, .slice none 0 0] 8 (laidW_os os)
      (World.shaped_of_ZipB (by kernel_rfl) (by kernel_rfl)) (by kernel_rfl) (by kernel_rfl) (by kernel_rfl)
      (laidW_met os _)) ?_
  intro W base args ds gs before hval0 hW hL hS
  obtain ⟨g, hg⟩ := gl_exists hL hS
  have hval : ∀ (j : Nat) t v, Tryz.f4.params[j]? = some t → args[j]? = some v → Value.okWide Tryz.prog W .any base t v := hval0
  have hW' := hW
  obtain ⟨p, q, hA0, hV, _, _, _⟩ := hW
  have hA : DataW.TrodAll enc Tryz.prog W 0 (fun _ => true) true Tryz.f4.params.toList args.toList ds p := hA0
  rw [show Tryz.f4.params.toList = [23, 3, 51] from rfl] at hA
  obtain ⟨v0, a0, d0, e0, p0, q0, ha0, rfl, hp0, h0, hA⟩ := trodAll_cons hA
  obtain ⟨v1, a1, d1, e1, p1, q1, ha1, rfl, hp1, h1, hA⟩ := trodAll_cons hA
  obtain ⟨v2, a2, d2, e2, p2, q2, ha2, rfl, hp2, h2, hA⟩ := trodAll_cons hA
  obtain ⟨hn, rfl, hm⟩ := trodAll_nil hA
  obtain rfl : args = #[v0, v1, v2] := by cases args; simp_all
  obtain ⟨x0, b0, r0⟩ := open_ints (okWide_slice Tryz.underlying23 (hval 0 23 v0 rfl rfl)) h0
  obtain ⟨x1, b1, r1⟩ := open_int (okWide_int Tryz.underlying3 (hval 1 3 v1 rfl rfl)) h1
  obtain ⟨x2, b2, r2⟩ := open_acts (okWide_slice Tryz.underlying51 (hval 2 51 v2 rfl rfl)) h2
  have hgs : gs = [] := by
    cases gs with
    | nil => rfl
    | cons => cases hV
  subst hgs
  have hc : ACalls Tryz.prog 4 [ivs x0, .v (.int .i64 x1), .sl (x2.map encAct)] (fixes (glx g)) (one (.v (.bool true)) (fixes (glx g))) := spi_law g x0 x1 x2
  refine (law_callsF (glx g) hc (W := W) (args := #[v0, v1, v2]) hg ⟨_, _, rfl, r0, _, _, rfl, r1, _, _, rfl, r2, rfl⟩).mono fun e W1 ⟨he, hB⟩ => ?_
  subst he
  exact ⟨_, rfl, post_law kids full (fun t ht => of_decide_eq_true (List.all_eq_true.1 (show ([23, 3, 51] : List Nat).all (fun t => decide (t < Tryz.prog.types.size)) = true by kernel_rfl) t ht)) hW' hB rfl rfl rfl rfl rfl Tryz.underlying4⟩

theorem andI {a b : Bool} (ha : a = true) (hb : b = true) : (a && b) = true := by rw [ha, hb]; rfl
set_option maxRecDepth 100000
theorem spinInside_j0 : (Rows.spinInsideRow.wf (OpenSpec.ofChange Rows.spinInsideSpec)) = true := by kernel_rfl
theorem spinInside_j1 : (laidOutB Tryz.prog) = true := by kernel_rfl
theorem spinInside_j2 : (mapsRowed Tryz.prog) = true := by kernel_rfl
theorem spinInside_j3 : (Tryz.f4.params.all (Tryz.prog.readableRec ·)) = true := by kernel_rfl
theorem spinInside_j4 : (namedTie Tryz.prog Rows.spinInsideRow.named Rows.spinInsideSpec.vars) = true := by kernel_rfl
theorem spinInside_j5 : ((Rows.spinInsideRow.stops == [])) = true := by kernel_rfl
theorem spinInside_j6 : ((Tryz.prog.stops == [])) = true := by kernel_rfl
theorem spinInside_j7 : ((Rows.spinInsideRow.knobs == [])) = true := by kernel_rfl
theorem spinInside_j8 : ((Tryz.prog.stopKnobs == [])) = true := by kernel_rfl
theorem spinInside_j9 : ((Rows.spinInsideRow.inPlace == Tryz.prog.inPlace 4)) = true := by kernel_rfl
theorem spinInside_j10 : ((Rows.spinInsideRow.unfollowed == Tryz.prog.unfollowed 4)) = true := by kernel_rfl
theorem spinInside_j11 : ((Rows.spinInsideRow.recurses == Tryz.prog.recurses 4)) = true := by kernel_rfl
theorem spinInside_j12 : ((Rows.spinInsideRow.named == Tryz.prog.varsNamed 4)) = true := by kernel_rfl
theorem spinInside_j13 : ((Rows.spinInsideRow.maps == (Tryz.f4.params.toList ++ Rows.spinInsideSpec.plain.varTypes Tryz.prog).any (Tryz.prog.mapsRec ·))) = true := by kernel_rfl
theorem spinInside_j14 : ((Rows.spinInsideRow.ifaces == (Tryz.f4.params.toList ++ Rows.spinInsideSpec.plain.varTypes Tryz.prog).any (Tryz.prog.ifacesRec ·))) = true := by kernel_rfl
theorem spinInside_j15 : ((Rows.spinInsideRow.mapsOut == Tryz.prog.mapsAmong Tryz.f4.resultTypes.toList)) = true := by kernel_rfl
theorem spinInside_j16 : ((Rows.spinInsideRow.loops == (Tryz.f4.params.toList ++ Rows.spinInsideSpec.plain.varTypes Tryz.prog).any (Tryz.prog.loopsFrom ·))) = true := by kernel_rfl
theorem spinInside_j17 : ((Rows.spinInsideRow.wideKeys == (Tryz.f4.params.toList ++ Rows.spinInsideSpec.plain.varTypes Tryz.prog ++ Tryz.f4.resultTypes.toList).any (Tryz.prog.wideKeysFrom ·))) = true := by kernel_rfl
theorem spinInside_j18 : (Rows.spinInsideSpec.vars.all (Tryz.prog.varReadable ·)) = true := by kernel_rfl
theorem spinInside_j19 : (Tryz.f4.resultTypes.all (fun t => Tryz.prog.readableRec t && decide (t < Tryz.prog.types.size))) = true := by kernel_rfl
theorem spinInside_j20 : ((Rows.spinInsideRow.ifacesOut == Tryz.f4.resultTypes.toList.any (Tryz.prog.ifacesRec ·))) = true := by kernel_rfl
theorem spinInside_j21 : ((Rows.spinInsideRow.loopsOut == Tryz.f4.resultTypes.toList.any (Tryz.prog.loopsFrom ·))) = true := by kernel_rfl
theorem spinInside_j22 : ((Rows.spinInsideRow.plainKeys == Tryz.prog.plainKeys)) = true := by kernel_rfl
theorem spinInside_j23 : (Rows.spinInsideRow.shortTexts.isNone) = true := by kernel_rfl
theorem spinInside_j24 : (Tryz.prog.stopsHeard) = true := by kernel_rfl
theorem spinInside_j25 : (Tryz.prog.mayEnter) = true := by kernel_rfl
theorem spinInside_j26 : ((Rows.spinInsideRow.lifted == Tryz.prog.liftsFinal)) = true := by kernel_rfl
theorem spinInside_j27 : ((Tryz.prog.make == some Rows.spinInsideRow.make)) = true := by kernel_rfl
theorem spinInside_j28 : ((Rows.spinInsideRow.kinds == (if Rows.spinInsideRow.domain.isEmpty then [] else Tryz.f4.params.toList.map fun t => match Tryz.prog.underlying t with | some (.int k) => some k | _ => none))) = true := by kernel_rfl
theorem spinInside_j29 : ((Rows.spinInsideRow.pinned == Rows.spinInsideRow.pinnedBy)) = true := by kernel_rfl
theorem spinInside_j30 : ((Rows.spinInsideRow.veiled == (Tryz.f4.params.toList ++ Rows.spinInsideSpec.plain.varTypes Tryz.prog ++ Tryz.f4.resultTypes.toList).any (Tryz.prog.veiledRec ·))) = true := by kernel_rfl
theorem spinInside_j31 : (Rows.spinInsideRow.veiledFits Tryz.prog Tryz.f4.params.toList (Tryz.f4.params.toList ++ Rows.spinInsideSpec.plain.varTypes Tryz.prog ++ Tryz.f4.resultTypes.toList)) = true := by kernel_rfl
theorem spinInside_facts : joinedFacts Tryz.prog 4 Tryz.f4 Rows.spinInsideSpec Rows.spinInsideRow = true := by
  unfold joinedFacts
  exact andI (andI (andI (andI (andI (andI (andI (andI (andI (andI (andI (andI (andI (andI (andI (andI (andI (andI (andI (andI (andI (andI (andI (andI (andI (andI (andI (andI (andI (andI (andI spinInside_j0 spinInside_j1) spinInside_j2) spinInside_j3) spinInside_j4) spinInside_j5) spinInside_j6) spinInside_j7) spinInside_j8) spinInside_j9) spinInside_j10) spinInside_j11) spinInside_j12) spinInside_j13) spinInside_j14) spinInside_j15) spinInside_j16) spinInside_j17) spinInside_j18) spinInside_j19) spinInside_j20) spinInside_j21) spinInside_j22) spinInside_j23) spinInside_j24) spinInside_j25) spinInside_j26) spinInside_j27) spinInside_j28) spinInside_j29) spinInside_j30) spinInside_j31
theorem spinInside_holds : Rows.SpinInsideSaid :=
  OpenClaim.holds_of_wide 4 Tryz.f4 rfl rfl rfl rfl rfl rfl rfl ⟨rfl, rfl, rfl, rfl, rfl⟩ rfl rfl rfl rfl rfl (by kernel_rfl) Tryz.func4 spinInside_facts
    (of_decide_eq_true (by kernel_rfl)) (by unfold Func.isWrapper; first | (rw [if_pos (by decide +kernel)]; kernel_rfl) | (rw [if_neg (by decide +kernel)]; exact ⟨rfl, rfl⟩))
    (fun os started H enc _ => spinInside_lifted os started H enc)
theorem spinInside_plain (f : FuncId) (fn : Func) (hf : Tryz.pinned.checked.prog.funcNamed "respite/respitelaw11.SpinInside" = some f) (hfn : Tryz.pinned.checked.prog.funcs[f]? = some fn) :
    true = Tryz.pinned.checked.prog.looks [] ∧ ∀ (j : Nat) t, fn.params[j]? = some t → Tryz.pinned.checked.prog.wantsStandIn t = false := by
  obtain rfl : f = 4 := Option.some.inj ((show Tryz.prog.funcNamed "respite/respitelaw11.SpinInside" = some 4 by kernel_rfl).symm.trans hf) |>.symm
  obtain rfl : fn = Tryz.f4 := (Option.some.inj (Tryz.func4.symm.trans hfn)).symm
  refine ⟨by kernel_rfl, fun j t ht => ?_⟩
  have hm : t ∈ ([23, 3, 51] : List Nat) := by simpa [show Tryz.f4.params.toList = [23, 3, 51] from rfl] using Array.mem_of_getElem? ht
  have hall : (([23, 3, 51] : List Nat).all fun u => !Tryz.prog.wantsStandIn u) = true := by kernel_rfl
  show Tryz.prog.wantsStandIn t = false
  simpa using List.all_eq_true.1 hall t hm
theorem spinInside_card : Rows.SpinInsideCardSaid :=
  Claim7.holds_tied_plain_at .later [] _ _ _ _ spinInside_holds (fun _ h => by cases h) (by kernel_rfl) (fun _ h => by cases h) spinInside_row_tie rfl ⟨rfl, rfl⟩ (by kernel_rfl) rfl spinInside_plain (by kernel_rfl)
end Go.Proofs.YteefnlbapebamaaGreatDoor
