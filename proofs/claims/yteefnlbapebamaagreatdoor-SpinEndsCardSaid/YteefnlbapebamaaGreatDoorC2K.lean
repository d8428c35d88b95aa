/-
  The claim SpinEnds: the law's contract, for every input from outside, the listed variables read as listed; the row, and the tied card.
-/
import Derived.Test.YteefnlbapebamaaGreatDoorA11
import Derived.Test.YteefnlbapebamaaGreatDoorTie
import Derived.Test.YteefnlbapebamaaGreatDoorCards
import Derived.Lay
import Derived.SevenTiedAt
import Derived.Stop.Joined
set_option linter.unusedVariables false
namespace Go.Proofs.YteefnlbapebamaaGreatDoor
open Go Go.AL Go.ChangeShapes Go.WideShapes Go.ChangeAt Go.RowKit

set_option maxHeartbeats 1600000 in
set_option maxRecDepth 100000 in
theorem spinEnds_lifted (os : Os) (started : os.Started) (H : Type) (enc : TypeId × Value → H) :
    ReturnsInHanded {} Tryz.checked os 7 .any (fun w args => (Rows.spinEndsSpec.pre enc Tryz.prog Tryz.f7 Rows.spinEndsRow.domain false w args ∧ laidMetH Tryz.prog Rows.spinEndsRow.laid w) ∧ sizedMet enc Tryz.prog Tryz.f7 (OpenSpec.ofChange Rows.spinEndsSpec) false w args)
      (Rows.spinEndsSpec.post enc Tryz.prog Tryz.f7 false true false false) := by
  refine Go.AL.returnsInHanded_and_shaped (C := Tryz.checked) (X := fun w _ => laidMetH Tryz.prog Rows.spinEndsRow.laid w) (fun _ _ _ hh h => h.of_heap hh) own started (by kernel_rfl) Tryz.func7
    (ChangeSpec.witness_shaped (enc := enc) (C := Tryz.checked) (os := os) (X := fun w _ => laidMetH Tryz.prog Rows.spinEndsRow.laid w) false (laidW os) #[.slice none 0 0, .int .i64 0, .slice none 0 0] 8 (laidW_os os)
      (World.shaped_of_ZipB (by kernel_rfl) (by kernel_rfl)) (by kernel_rfl) (by kernel_rfl) (by kernel_rfl)
      (laidW_met os _)) ?_
  intro W base args ds gs before hval0 hW hL hS
  obtain ⟨g, hg⟩ := gl_exists hL hS
  have hval : ∀ (j : Nat) t v, Tryz.f7.params[j]? = some t → args[j]? = some v → Value.okWide Tryz.prog W .any base t v := hval0
  have hW' := hW
  obtain ⟨p, q, hA0, hV, _, _, _⟩ := hW
  have hA : DataW.TrodAll enc Tryz.prog W 0 (fun _ => true) true Tryz.f7.params.toList args.toList ds p := hA0
  rw [show Tryz.f7.params.toList = [23, 3, 51] from rfl] at hA
  obtain ⟨v0, a0, d0, e0, p0, q0, ha0, rfl, hp0, h0, hA⟩ := trodAll_cons hA
  obtain ⟨v1, a1, d1, e1, p1, q1, ha1, rfl, hp1, h1, hA⟩ := trodAll_cons hA
  obtain ⟨v2, a2, d2, e2, p2, q2, ha2, rfl, hp2, h2, hA⟩ := trodAll_cons hA
  obtain ⟨hn, rfl, hm⟩ := trodAll_nil hA
  obtain rfl : args = #[v0, v1, v2] := by cases args; simp_all
  obtain ⟨x0, b0, r0⟩ := open_ints (okWide_slice Tryz.underlying23 (hval 0 23 v0 rfl rfl)) h0
  obtain ⟨x1, b1, r1⟩ := open_int (okWide_int Tryz.underlying3 (hval 1 3 v1 rfl rfl)) h1
  obtain ⟨x2, b2, r2⟩ := open_acts (okWide_slice Tryz.underlying51 (hval 2 51 v2 rfl rfl)) h2
  have hgs : gs = [] := by
    cases gs with
    | nil => rfl
    | cons => cases hV
  subst hgs
  have hc : ACalls Tryz.prog 7 [ivs x0, .v (.int .i64 x1), .sl (x2.map encAct)] (fixes (glx g)) (one (.v (.bool true)) (fixes (glx g))) := spe_law g x0 x1 x2
  refine (law_callsF (glx g) hc (W := W) (args := #[v0, v1, v2]) hg ⟨_, _, rfl, r0, _, _, rfl, r1, _, _, rfl, r2, rfl⟩).mono fun e W1 ⟨he, hB⟩ => ?_
  subst he
  exact ⟨_, rfl, post_law kids full (fun t ht => of_decide_eq_true (List.all_eq_true.1 (show ([23, 3, 51] : List Nat).all (fun t => decide (t < Tryz.prog.types.size)) = true by kernel_rfl) t ht)) hW' hB rfl rfl rfl rfl rfl Tryz.underlying4⟩

theorem andI {a b : Bool} (ha : a = true) (hb : b = true) : (a && b) = true := by rw [ha, hb]; rfl
set_option maxRecDepth 100000
theorem spinEnds_j0 : (Rows.spinEndsRow.wf (OpenSpec.ofChange Rows.spinEndsSpec)) = true := by kernel_rfl
theorem spinEnds_j1 : (laidOutB Tryz.prog) = true := by kernel_rfl
theorem spinEnds_j2 : (mapsRowed Tryz.prog) = true := by kernel_rfl
theorem spinEnds_j3 : (Tryz.f7.params.all (Tryz.prog.readableRec ·)) = true := by kernel_rfl
theorem spinEnds_j4 : (namedTie Tryz.prog Rows.spinEndsRow.named Rows.spinEndsSpec.vars) = true := by kernel_rfl
theorem spinEnds_j5 : ((Rows.spinEndsRow.stops == [])) = true := by kernel_rfl
theorem spinEnds_j6 : ((Tryz.prog.stops == [])) = true := by kernel_rfl
theorem spinEnds_j7 : ((Rows.spinEndsRow.knobs == [])) = true := by kernel_rfl
theorem spinEnds_j8 : ((Tryz.prog.stopKnobs == [])) = true := by kernel_rfl
theorem spinEnds_j9 : ((Rows.spinEndsRow.inPlace == Tryz.prog.inPlace 7)) = true := by kernel_rfl
theorem spinEnds_j10 : ((Rows.spinEndsRow.unfollowed == Tryz.prog.unfollowed 7)) = true := by kernel_rfl
theorem spinEnds_j11 : ((Rows.spinEndsRow.recurses == Tryz.prog.recurses 7)) = true := by kernel_rfl
theorem spinEnds_j12 : ((Rows.spinEndsRow.named == Tryz.prog.varsNamed 7)) = true := by kernel_rfl
theorem spinEnds_j13 : ((Rows.spinEndsRow.maps == (Tryz.f7.params.toList ++ Rows.spinEndsSpec.plain.varTypes Tryz.prog).any (Tryz.prog.mapsRec ·))) = true := by kernel_rfl
theorem spinEnds_j14 : ((Rows.spinEndsRow.ifaces == (Tryz.f7.params.toList ++ Rows.spinEndsSpec.plain.varTypes Tryz.prog).any (Tryz.prog.ifacesRec ·))) = true := by kernel_rfl
theorem spinEnds_j15 : ((Rows.spinEndsRow.mapsOut == Tryz.prog.mapsAmong Tryz.f7.resultTypes.toList)) = true := by kernel_rfl
theorem spinEnds_j16 : ((Rows.spinEndsRow.loops == (Tryz.f7.params.toList ++ Rows.spinEndsSpec.plain.varTypes Tryz.prog).any (Tryz.prog.loopsFrom ·))) = true := by kernel_rfl
theorem spinEnds_j17 : ((Rows.spinEndsRow.wideKeys == (Tryz.f7.params.toList ++ Rows.spinEndsSpec.plain.varTypes Tryz.prog ++ Tryz.f7.resultTypes.toList).any (Tryz.prog.wideKeysFrom ·))) = true := by kernel_rfl
theorem spinEnds_j18 : (Rows.spinEndsSpec.vars.all (Tryz.prog.varReadable ·)) = true := by kernel_rfl
theorem spinEnds_j19 : (Tryz.f7.resultTypes.all (fun t => Tryz.prog.readableRec t && decide (t < Tryz.prog.types.size))) = true := by kernel_rfl
theorem spinEnds_j20 : ((Rows.spinEndsRow.ifacesOut == Tryz.f7.resultTypes.toList.any (Tryz.prog.ifacesRec ·))) = true := by kernel_rfl
theorem spinEnds_j21 : ((Rows.spinEndsRow.loopsOut == Tryz.f7.resultTypes.toList.any (Tryz.prog.loopsFrom ·))) = true := by kernel_rfl
theorem spinEnds_j22 : ((Rows.spinEndsRow.plainKeys == Tryz.prog.plainKeys)) = true := by kernel_rfl
theorem spinEnds_j23 : (Rows.spinEndsRow.shortTexts.isNone) = true := by kernel_rfl
theorem spinEnds_j24 : (Tryz.prog.stopsHeard) = true := by kernel_rfl
theorem spinEnds_j25 : (Tryz.prog.mayEnter) = true := by kernel_rfl
theorem spinEnds_j26 : ((Rows.spinEndsRow.lifted == Tryz.prog.liftsFinal)) = true := by kernel_rfl
theorem spinEnds_j27 : ((Tryz.prog.make == some Rows.spinEndsRow.make)) = true := by kernel_rfl
theorem spinEnds_j28 : ((Rows.spinEndsRow.kinds == (if Rows.spinEndsRow.domain.isEmpty then [] else Tryz.f7.params.toList.map fun t => match Tryz.prog.underlying t with | some (.int k) => some k | _ => none))) = true := by kernel_rfl
theorem spinEnds_j29 : ((Rows.spinEndsRow.pinned == Rows.spinEndsRow.pinnedBy)) = true := by kernel_rfl
theorem spinEnds_j30 : ((Rows.spinEndsRow.veiled == (Tryz.f7.params.toList ++ Rows.spinEndsSpec.plain.varTypes Tryz.prog ++ Tryz.f7.resultTypes.toList).any (Tryz.prog.veiledRec ·))) = true := by kernel_rfl
theorem spinEnds_j31 : (Rows.spinEndsRow.veiledFits Tryz.prog Tryz.f7.params.toList (Tryz.f7.params.toList ++ Rows.spinEndsSpec.plain.varTypes Tryz.prog ++ Tryz.f7.resultTypes.toList)) = true := by kernel_rfl
theorem spinEnds_facts : joinedFacts Tryz.prog 7 Tryz.f7 Rows.spinEndsSpec Rows.spinEndsRow = true := by
  unfold joinedFacts
  exact andI (andI (andI (andI (andI (andI (andI (andI (andI (andI (andI (andI (andI (andI (andI (andI (andI (andI (andI (andI (andI (andI (andI (andI (andI (andI (andI (andI (andI (andI (andI spinEnds_j0 spinEnds_j1) spinEnds_j2) spinEnds_j3) spinEnds_j4) spinEnds_j5) spinEnds_j6) spinEnds_j7) spinEnds_j8) spinEnds_j9) spinEnds_j10) spinEnds_j11) spinEnds_j12) spinEnds_j13) spinEnds_j14) spinEnds_j15) spinEnds_j16) spinEnds_j17) spinEnds_j18) spinEnds_j19) spinEnds_j20) spinEnds_j21) spinEnds_j22) spinEnds_j23) spinEnds_j24) spinEnds_j25) spinEnds_j26) spinEnds_j27) spinEnds_j28) spinEnds_j29) spinEnds_j30) spinEnds_j31
theorem spinEnds_holds : Rows.SpinEndsSaid :=
  OpenClaim.holds_of_wide 7 Tryz.f7 rfl rfl rfl rfl rfl rfl rfl ⟨rfl, rfl, rfl, rfl, rfl⟩ rfl rfl rfl rfl rfl (by kernel_rfl) Tryz.func7 spinEnds_facts
    (of_decide_eq_true (by kernel_rfl)) (by unfold Func.isWrapper; first | (rw [if_pos (by decide +kernel)]; kernel_rfl) | (rw [if_neg (by decide +kernel)]; exact ⟨rfl, rfl⟩))
    (fun os started H enc _ => spinEnds_lifted os started H enc)
theorem spinEnds_plain (f : FuncId) (fn : Func) (hf : Tryz.pinned.checked.prog.funcNamed "respite/respitelaw11.SpinEnds" = some f) (hfn : Tryz.pinned.checked.prog.funcs[f]? = some fn) :
    true = Tryz.pinned.checked.prog.looks [] ∧ ∀ (j : Nat) t, fn.params[j]? = some t → Tryz.pinned.checked.prog.wantsStandIn t = false := by
  obtain rfl : f = 7 := Option.some.inj ((show Tryz.prog.funcNamed "respite/respitelaw11.SpinEnds" = some 7 by kernel_rfl).symm.trans hf) |>.symm
  obtain rfl : fn = Tryz.f7 := (Option.some.inj (Tryz.func7.symm.trans hfn)).symm
  refine ⟨by kernel_rfl, fun j t ht => ?_⟩
  have hm : t ∈ ([23, 3, 51] : List Nat) := by simpa [show Tryz.f7.params.toList = [23, 3, 51] from rfl] using Array.mem_of_getElem? ht
  have hall : (([23, 3, 51] : List Nat).all fun u => !Tryz.prog.wantsStandIn u) = true := by kernel_rfl
  show Tryz.prog.wantsStandIn t = false
  simpa using List.all_eq_true.1 hall t hm
theorem spinEnds_card : Rows.SpinEndsCardSaid :=
  Claim7.holds_tied_plain_at .later [] _ _ _ _ spinEnds_holds (fun _ h => by cases h) (by kernel_rfl) (fun _ h => by cases h) spinEnds_row_tie rfl ⟨rfl, rfl⟩ (by kernel_rfl) rfl spinEnds_plain (by kernel_rfl)
end Go.Proofs.YteefnlbapebamaaGreatDoor
