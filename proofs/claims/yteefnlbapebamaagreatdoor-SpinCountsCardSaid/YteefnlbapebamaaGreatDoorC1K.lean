/-
  The claim SpinCounts: the law's contract, for every input from outside, the listed variables read as listed; the row, and the tied card.
-/
import Derived.Test.YteefnlbapebamaaGreatDoorA11
import Derived.Test.YteefnlbapebamaaGreatDoorTie
import Derived.Test.YteefnlbapebamaaGreatDoorCards
import Derived.Lay
import Derived.SevenTiedAt
import Derived.Stop.Joined
set_option linter.unusedVariables false
namespace Go.Proofs.YteefnlbapebamaaGreatDoor
open Go Go.AL Go.ChangeShapes Go.WideShapes Go.ChangeAt Go.RowKit

set_option maxHeartbeats 1600000 in
set_option maxRecDepth 100000 in
theorem spinCounts_lifted (os : Os) (started : os.Started) (H : Type) (enc : TypeId × Value → H) :
    ReturnsInHanded {} Tryz.checked os 5 .any (fun w args => (Rows.spinCountsSpec.pre enc Tryz.prog Tryz.f5 Rows.spinCountsRow.domain false w args ∧ laidMetH Tryz.prog Rows.spinCountsRow.laid w) ∧ sizedMet enc Tryz.prog Tryz.f5 (OpenSpec.ofChange Rows.spinCountsSpec) false w args)
      (Rows.spinCountsSpec.post enc Tryz.prog Tryz.f5 false true false false) := by
  refine Go.AL.returnsInHanded_and_shaped (C := Tryz.checked) (X := fun w _ => laidMetH Tryz.prog Rows.spinCountsRow.laid w) (fun _ _ _ hh h => h.of_heap hh) own started (by kernel_rfl) Tryz.func5
    (ChangeSpec.witness_shaped (enc := enc) (C := Tryz.checked) (os := os) (X := fun w _ => laidMetH Tryz.prog Rows.spinCountsRow.laid w) false (laidW os) #[.slice none 0 0, .int .i64 0, .slice none 0 0] 8 (laidW_os os)
      (World.shaped_of_ZipB (by kernel_rfl) (by kernel_rfl)) (by kernel_rfl) (by kernel_rfl) (by kernel_rfl)
      (laidW_met os _)) ?_
  intro W base args ds gs before hval0 hW hL hS
  obtain ⟨g, hg⟩ := gl_exists hL hS
  have hval : ∀ (j : Nat) t v, Tryz.f5.params[j]? = some t → args[j]? = some v → Value.okWide Tryz.prog W .any base t v := hval0
  have hW' := hW
  obtain ⟨p, q, hA0, hV, _, _, _⟩ := hW
  have hA : DataW.TrodAll enc Tryz.prog W 0 (fun _ => true) true Tryz.f5.params.toList args.toList ds p := hA0
  rw [show Tryz.f5.params.toList = [23, 3, 51] from rfl] at hA
  obtain ⟨v0, a0, d0, e0, p0, q0, ha0, rfl, hp0, h0, hA⟩ := trodAll_cons hA
  obtain ⟨v1, a1, d1, e1, p1, q1, ha1, rfl, hp1, h1, hA⟩ := trodAll_cons hA
  obtain ⟨v2, a2, d2, e2, p2, q2, ha2, rfl, hp2, h2, hA⟩ := trodAll_cons hA
  obtain ⟨hn, rfl, hm⟩ := trodAll_nil hA
  obtain rfl : args = #[v0, v1, v2] := by cases args; simp_all
  obtain ⟨x0, b0, r0⟩ := open_ints (okWide_slice Tryz.underlying23 (hval 0 23 v0 rfl rfl)) h0
  obtain ⟨x1, b1, r1⟩ := open_int (okWide_int Tryz.underlying3 (hval 1 3 v1 rfl rfl)) h1
  obtain ⟨x2, b2, r2⟩ := open_acts (okWide_slice Tryz.underlying51 (hval 2 51 v2 rfl rfl)) h2
  have hgs : gs = [] := by
    cases gs with
    | nil => rfl
    | cons => cases hV
  subst hgs
  have hc : ACalls Tryz.prog 5 [ivs x0, .v (.int .i64 x1), .sl (x2.map encAct)] (fixes (glx g)) (one (.v (.bool true)) (fixes (glx g))) := spc_law g x0 x1 x2
  refine (law_callsF (glx g) hc (W := W) (args := #[v0, v1, v2]) hg ⟨_, _, rfl, r0, _, _, rfl, r1, _, _, rfl, r2, rfl⟩).mono fun e W1 ⟨he, hB⟩ => ?_
  subst he
  exact ⟨_, rfl, post_law kids full (fun t ht => of_decide_eq_true (List.all_eq_true.1 (show ([23, 3, 51] : List Nat).all (fun t => decide (t < Tryz.prog.types.size)) = true by kernel_rfl) t ht)) hW' hB rfl rfl rfl rfl rfl Tryz.underlying4⟩

theorem andI {a b : Bool} (ha : a = true) (hb : b = true) : (a && b) = true := by rw [ha, hb]; rfl
set_option maxRecDepth 100000
theorem spinCounts_j0 : (Rows.spinCountsRow.wf (OpenSpec.ofChange Rows.spinCountsSpec)) = true := by kernel_rfl
theorem spinCounts_j1 : (laidOutB Tryz.prog) = true := by kernel_rfl
theorem spinCounts_j2 : (mapsRowed Tryz.prog) = true := by kernel_rfl
theorem spinCounts_j3 : (Tryz.f5.params.all (Tryz.prog.readableRec ·)) = true := by kernel_rfl
theorem spinCounts_j4 : (namedTie Tryz.prog Rows.spinCountsRow.named Rows.spinCountsSpec.vars) = true := by kernel_rfl
theorem spinCounts_j5 : ((Rows.spinCountsRow.stops == [])) = true := by kernel_rfl
theorem spinCounts_j6 : ((Tryz.prog.stops == [])) = true := by kernel_rfl
theorem spinCounts_j7 : ((Rows.spinCountsRow.knobs == [])) = true := by kernel_rfl
theorem spinCounts_j8 : ((Tryz.prog.stopKnobs == [])) = true := by kernel_rfl
theorem spinCounts_j9 : ((Rows.spinCountsRow.inPlace == Tryz.prog.inPlace 5)) = true := by kernel_rfl
theorem spinCounts_j10 : ((Rows.spinCountsRow.unfollowed == Tryz.prog.unfollowed 5)) = true := by kernel_rfl
theorem spinCounts_j11 : ((Rows.spinCountsRow.recurses == Tryz.prog.recurses 5)) = true := by kernel_rfl
theorem spinCounts_j12 : ((Rows.spinCountsRow.named == Tryz.prog.varsNamed 5)) = true := by kernel_rfl
theorem spinCounts_j13 : ((Rows.spinCountsRow.maps == (Tryz.f5.params.toList ++ Rows.spinCountsSpec.plain.varTypes Tryz.prog).any (Tryz.prog.mapsRec ·))) = true := by kernel_rfl
theorem spinCounts_j14 : ((Rows.spinCountsRow.ifaces == (Tryz.f5.params.toList ++ Rows.spinCountsSpec.plain.varTypes Tryz.prog).any (Tryz.prog.ifacesRec ·))) = true := by kernel_rfl
theorem spinCounts_j15 : ((Rows.spinCountsRow.mapsOut == Tryz.prog.mapsAmong Tryz.f5.resultTypes.toList)) = true := by kernel_rfl
theorem spinCounts_j16 : ((Rows.spinCountsRow.loops == (Tryz.f5.params.toList ++ Rows.spinCountsSpec.plain.varTypes Tryz.prog).any (Tryz.prog.loopsFrom ·))) = true := by kernel_rfl
theorem spinCounts_j17 : ((Rows.spinCountsRow.wideKeys == (Tryz.f5.params.toList ++ Rows.spinCountsSpec.plain.varTypes Tryz.prog ++ Tryz.f5.resultTypes.toList).any (Tryz.prog.wideKeysFrom ·))) = true := by kernel_rfl
theorem spinCounts_j18 : (Rows.spinCountsSpec.vars.all (Tryz.prog.varReadable ·)) = true := by kernel_rfl
theorem spinCounts_j19 : (Tryz.f5.resultTypes.all (fun t => Tryz.prog.readableRec t && decide (t < Tryz.prog.types.size))) = true := by kernel_rfl
theorem spinCounts_j20 : ((Rows.spinCountsRow.ifacesOut == Tryz.f5.resultTypes.toList.any (Tryz.prog.ifacesRec ·))) = true := by kernel_rfl
theorem spinCounts_j21 : ((Rows.spinCountsRow.loopsOut == Tryz.f5.resultTypes.toList.any (Tryz.prog.loopsFrom ·))) = true := by kernel_rfl
theorem spinCounts_j22 : ((Rows.spinCountsRow.plainKeys == Tryz.prog.plainKeys)) = true := by kernel_rfl
theorem spinCounts_j23 : (Rows.spinCountsRow.shortTexts.isNone) = true := by kernel_rfl
theorem spinCounts_j24 : (Tryz.prog.stopsHeard) = true := by kernel_rfl
theorem spinCounts_j25 : (Tryz.prog.mayEnter) = true := by kernel_rfl
theorem spinCounts_j26 : ((Rows.spinCountsRow.lifted == Tryz.prog.liftsFinal)) = true := by kernel_rfl
theorem spinCounts_j27 : ((Tryz.prog.make == some Rows.spinCountsRow.make)) = true := by kernel_rfl
theorem spinCounts_j28 : ((Rows.spinCountsRow.kinds == (if Rows.spinCountsRow.domain.isEmpty then [] else Tryz.f5.params.toList.map fun t => match Tryz.prog.underlying t with | some (.int k) => some k | _ => none))) = true := by kernel_rfl
theorem spinCounts_j29 : ((Rows.spinCountsRow.pinned == Rows.spinCountsRow.pinnedBy)) = true := by kernel_rfl
theorem spinCounts_j30 : ((Rows.spinCountsRow.veiled == (Tryz.f5.params.toList ++ Rows.spinCountsSpec.plain.varTypes Tryz.prog ++ Tryz.f5.resultTypes.toList).any (Tryz.prog.veiledRec ·))) = true := by kernel_rfl
theorem spinCounts_j31 : (Rows.spinCountsRow.veiledFits Tryz.prog Tryz.f5.params.toList (Tryz.f5.params.toList ++ Rows.spinCountsSpec.plain.varTypes Tryz.prog ++ Tryz.f5.resultTypes.toList)) = true := by kernel_rfl
theorem spinCounts_facts : joinedFacts Tryz.prog 5 Tryz.f5 Rows.spinCountsSpec Rows.spinCountsRow = true := by
  unfold joinedFacts
  exact andI (andI (andI (andI (andI (andI (andI (andI (andI (andI (andI (andI (andI (andI (andI (andI (andI (andI (andI (andI (andI (andI (andI (andI (andI (andI (andI (andI (andI (andI (andI spinCounts_j0 spinCounts_j1) spinCounts_j2) spinCounts_j3) spinCounts_j4) spinCounts_j5) spinCounts_j6) spinCounts_j7) spinCounts_j8) spinCounts_j9) spinCounts_j10) spinCounts_j11) spinCounts_j12) spinCounts_j13) spinCounts_j14) spinCounts_j15) spinCounts_j16) spinCounts_j17) spinCounts_j18) spinCounts_j19) spinCounts_j20) spinCounts_j21) spinCounts_j22) spinCounts_j23) spinCounts_j24) spinCounts_j25) spinCounts_j26) spinCounts_j27) spinCounts_j28) spinCounts_j29) spinCounts_j30) spinCounts_j31
theorem spinCounts_holds : Rows.SpinCountsSaid :=
  OpenClaim.holds_of_wide 5 Tryz.f5 rfl rfl rfl rfl rfl rfl rfl ⟨rfl, rfl, rfl, rfl, rfl⟩ rfl rfl rfl rfl rfl (by kernel_rfl) Tryz.func5 spinCounts_facts
    (of_decide_eq_true (by kernel_rfl)) (by unfold Func.isWrapper; first | (rw [if_pos (by decide +kernel)]; kernel_rfl) | (rw [if_neg (by decide +kernel)]; exact ⟨rfl, rfl⟩))
    (fun os started H enc _ => spinCounts_lifted os started H enc)
theorem spinCounts_plain (f : FuncId) (fn : Func) (hf : Tryz.pinned.checked.prog.funcNamed "respite/respitelaw11.SpinCounts" = some f) (hfn : Tryz.pinned.checked.prog.funcs[f]? = some fn) :
    true = Tryz.pinned.checked.prog.looks [] ∧ ∀ (j : Nat) t, fn.params[j]? = some t → Tryz.pinned.checked.prog.wantsStandIn t = false := by
  obtain rfl : f = 5 := Option.some.inj ((show Tryz.prog.funcNamed "respite/respitelaw11.SpinCounts" = some 5 by kernel_rfl).symm.trans hf) |>.symm
  obtain rfl : fn = Tryz.f5 := (Option.some.inj (Tryz.func5.symm.trans hfn)).symm
  refine ⟨by kernel_rfl, fun j t ht => ?_⟩
  have hm : t ∈ ([23, 3, 51] : List Nat) := by simpa [show Tryz.f5.params.toList = [23, 3, 51] from rfl] using Array.mem_of_getElem? ht
  have hall : (([23, 3, 51] : List Nat).all fun u => !Tryz.prog.wantsStandIn u) = true := by kernel_rfl
  show Tryz.prog.wantsStandIn t = false
  simpa using List.all_eq_true.1 hall t hm
theorem spinCounts_card : Rows.SpinCountsCardSaid :=
  Claim7.holds_tied_plain_at .later [] _ _ _ _ spinCounts_holds (fun _ h => by cases h) (by kernel_rfl) (fun _ h => by cases h) spinCounts_row_tie rfl ⟨rfl, rfl⟩ (by kernel_rfl) rfl spinCounts_plain (by kernel_rfl)
end Go.Proofs.YteefnlbapebamaaGreatDoor
