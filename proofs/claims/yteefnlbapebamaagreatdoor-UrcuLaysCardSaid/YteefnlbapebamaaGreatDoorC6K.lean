/-
  The claim UrcuLays: the law's contract, for every input from outside, the listed variables read as listed; the row, and the tied card.
-/
import Derived.Test.YteefnlbapebamaaGreatDoorB11
import Derived.Test.YteefnlbapebamaaGreatDoorTie
import Derived.Test.YteefnlbapebamaaGreatDoorCards
import Derived.Lay
import Derived.SevenTiedAt
import Derived.Stop.Joined
set_option linter.unusedVariables false
namespace Go.Proofs.YteefnlbapebamaaGreatDoor
open Go Go.AL Go.ChangeShapes Go.WideShapes Go.ChangeAt Go.RowKit

set_option maxHeartbeats 1600000 in
set_option maxRecDepth 100000 in
theorem urcuLays_lifted (os : Os) (started : os.Started) (H : Type) (enc : TypeId × Value → H) :
    ReturnsInHanded {} Tryz.checked os 8 .any (fun w args => (Rows.urcuLaysSpec.pre enc Tryz.prog Tryz.f8 Rows.urcuLaysRow.domain false w args ∧ laidMetH Tryz.prog Rows.urcuLaysRow.laid w) ∧ sizedMet enc Tryz.prog Tryz.f8 (OpenSpec.ofChange Rows.urcuLaysSpec) false w args)
      (Rows.urcuLaysSpec.post enc Tryz.prog Tryz.f8 false true false false) := by
  refine Go.AL.returnsInHanded_and_shaped (C := Tryz.checked) (X := fun w _ => laidMetH Tryz.prog Rows.urcuLaysRow.laid w) (fun _ _ _ hh h => h.of_heap hh) own started (by kernel_rfl) Tryz.func8
    (ChangeSpec.witness_shaped (enc := enc) (C := Tryz.checked) (os := os) (X := fun w _ => laidMetH Tryz.prog Rows.urcuLaysRow.laid w) false (laidW os) #[.slice none 0 0, .slice none 0 0, .int .i64 0, .int .i64 0] 8 (laidW_os os)
      (World.shaped_of_ZipB (by kernel_rfl) (by kernel_rfl)) (by kernel_rfl) (by kernel_rfl) (by kernel_rfl)
      (laidW_met os _)) ?_
  intro W base args ds gs before hval0 hW hL hS
  obtain ⟨g, hg⟩ := gl_exists hL hS
  have hval : ∀ (j : Nat) t v, Tryz.f8.params[j]? = some t → args[j]? = some v → Value.okWide Tryz.prog W .any base t v := hval0
  have hW' := hW
  obtain ⟨p, q, hA0, hV, _, _, _⟩ := hW
  have hA : DataW.TrodAll enc Tryz.prog W 0 (fun _ => true) true Tryz.f8.params.toList args.toList ds p := hA0
  rw [show Tryz.f8.params.toList = [23, 23, 3, 3] from rfl] at hA
  obtain ⟨v0, a0, d0, e0, p0, q0, ha0, rfl, hp0, h0, hA⟩ := trodAll_cons hA
  obtain ⟨v1, a1, d1, e1, p1, q1, ha1, rfl, hp1, h1, hA⟩ := trodAll_cons hA
  obtain ⟨v2, a2, d2, e2, p2, q2, ha2, rfl, hp2, h2, hA⟩ := trodAll_cons hA
  obtain ⟨v3, a3, d3, e3, p3, q3, ha3, rfl, hp3, h3, hA⟩ := trodAll_cons hA
  obtain ⟨hn, rfl, hm⟩ := trodAll_nil hA
  obtain rfl : args = #[v0, v1, v2, v3] := by cases args; simp_all
  obtain ⟨x0, b0, r0⟩ := open_ints (okWide_slice Tryz.underlying23 (hval 0 23 v0 rfl rfl)) h0
  obtain ⟨x1, b1, r1⟩ := open_ints (okWide_slice Tryz.underlying23 (hval 1 23 v1 rfl rfl)) h1
  obtain ⟨x2, b2, r2⟩ := open_int (okWide_int Tryz.underlying3 (hval 2 3 v2 rfl rfl)) h2
  obtain ⟨x3, b3, r3⟩ := open_int (okWide_int Tryz.underlying3 (hval 3 3 v3 rfl rfl)) h3
  have hgs : gs = [] := by
    cases gs with
    | nil => rfl
    | cons => cases hV
  subst hgs
  have hc : ACalls Tryz.prog 8 [ivs x0, ivs x1, .v (.int .i64 x2), .v (.int .i64 x3)] (fixes (glx g)) (one (.v (.bool true)) (fixes (glx g))) := url_law g x0 x1 x2 x3
  refine (law_callsF (glx g) hc (W := W) (args := #[v0, v1, v2, v3]) hg ⟨_, _, rfl, r0, _, _, rfl, r1, _, _, rfl, r2, _, _, rfl, r3, rfl⟩).mono fun e W1 ⟨he, hB⟩ => ?_
  subst he
  exact ⟨_, rfl, post_law kids full (fun t ht => of_decide_eq_true (List.all_eq_true.1 (show ([23, 23, 3, 3] : List Nat).all (fun t => decide (t < Tryz.prog.types.size)) = true by kernel_rfl) t ht)) hW' hB rfl rfl rfl rfl rfl Tryz.underlying4⟩

theorem andI {a b : Bool} (ha : a = true) (hb : b = true) : (a && b) = true := by rw [ha, hb]; rfl
set_option maxRecDepth 100000
theorem urcuLays_j0 : (Rows.urcuLaysRow.wf (OpenSpec.ofChange Rows.urcuLaysSpec)) = true := by kernel_rfl
theorem urcuLays_j1 : (laidOutB Tryz.prog) = true := by kernel_rfl
theorem urcuLays_j2 : (mapsRowed Tryz.prog) = true := by kernel_rfl
theorem urcuLays_j3 : (Tryz.f8.params.all (Tryz.prog.readableRec ·)) = true := by kernel_rfl
theorem urcuLays_j4 : (namedTie Tryz.prog Rows.urcuLaysRow.named Rows.urcuLaysSpec.vars) = true := by kernel_rfl
theorem urcuLays_j5 : ((Rows.urcuLaysRow.stops == [])) = true := by kernel_rfl
theorem urcuLays_j6 : ((Tryz.prog.stops == [])) = true := by kernel_rfl
theorem urcuLays_j7 : ((Rows.urcuLaysRow.knobs == [])) = true := by kernel_rfl
theorem urcuLays_j8 : ((Tryz.prog.stopKnobs == [])) = true := by kernel_rfl
theorem urcuLays_j9 : ((Rows.urcuLaysRow.inPlace == Tryz.prog.inPlace 8)) = true := by kernel_rfl
theorem urcuLays_j10 : ((Rows.urcuLaysRow.unfollowed == Tryz.prog.unfollowed 8)) = true := by kernel_rfl
theorem urcuLays_j11 : ((Rows.urcuLaysRow.recurses == Tryz.prog.recurses 8)) = true := by kernel_rfl
theorem urcuLays_j12 : ((Rows.urcuLaysRow.named == Tryz.prog.varsNamed 8)) = true := by kernel_rfl
theorem urcuLays_j13 : ((Rows.urcuLaysRow.maps == (Tryz.f8.params.toList ++ Rows.urcuLaysSpec.plain.varTypes Tryz.prog).any (Tryz.prog.mapsRec ·))) = true := by kernel_rfl
theorem urcuLays_j14 : ((Rows.urcuLaysRow.ifaces == (Tryz.f8.params.toList ++ Rows.urcuLaysSpec.plain.varTypes Tryz.prog).any (Tryz.prog.ifacesRec ·))) = true := by kernel_rfl
theorem urcuLays_j15 : ((Rows.urcuLaysRow.mapsOut == Tryz.prog.mapsAmong Tryz.f8.resultTypes.toList)) = true := by kernel_rfl
theorem urcuLays_j16 : ((Rows.urcuLaysRow.loops == (Tryz.f8.params.toList ++ Rows.urcuLaysSpec.plain.varTypes Tryz.prog).any (Tryz.prog.loopsFrom ·))) = true := by kernel_rfl
theorem urcuLays_j17 : ((Rows.urcuLaysRow.wideKeys == (Tryz.f8.params.toList ++ Rows.urcuLaysSpec.plain.varTypes Tryz.prog ++ Tryz.f8.resultTypes.toList).any (Tryz.prog.wideKeysFrom ·))) = true := by kernel_rfl
theorem urcuLays_j18 : (Rows.urcuLaysSpec.vars.all (Tryz.prog.varReadable ·)) = true := by kernel_rfl
theorem urcuLays_j19 : (Tryz.f8.resultTypes.all (fun t => Tryz.prog.readableRec t && decide (t < Tryz.prog.types.size))) = true := by kernel_rfl
theorem urcuLays_j20 : ((Rows.urcuLaysRow.ifacesOut == Tryz.f8.resultTypes.toList.any (Tryz.prog.ifacesRec ·))) = true := by kernel_rfl
theorem urcuLays_j21 : ((Rows.urcuLaysRow.loopsOut == Tryz.f8.resultTypes.toList.any (Tryz.prog.loopsFrom ·))) = true := by kernel_rfl
theorem urcuLays_j22 : ((Rows.urcuLaysRow.plainKeys == Tryz.prog.plainKeys)) = true := by kernel_rfl
theorem urcuLays_j23 : (Rows.urcuLaysRow.shortTexts.isNone) = true := by kernel_rfl
theorem urcuLays_j24 : (Tryz.prog.stopsHeard) = true := by kernel_rfl
theorem urcuLays_j25 : (Tryz.prog.mayEnter) = true := by kernel_rfl
theorem urcuLays_j26 : ((Rows.urcuLaysRow.lifted == Tryz.prog.liftsFinal)) = true := by kernel_rfl
theorem urcuLays_j27 : ((Tryz.prog.make == some Rows.urcuLaysRow.make)) = true := by kernel_rfl
theorem urcuLays_j28 : ((Rows.urcuLaysRow.kinds == (if Rows.urcuLaysRow.domain.isEmpty then [] else Tryz.f8.params.toList.map fun t => match Tryz.prog.underlying t with | some (.int k) => some k | _ => none))) = true := by kernel_rfl
theorem urcuLays_j29 : ((Rows.urcuLaysRow.pinned == Rows.urcuLaysRow.pinnedBy)) = true := by kernel_rfl
theorem urcuLays_j30 : ((Rows.urcuLaysRow.veiled == (Tryz.f8.params.toList ++ Rows.urcuLaysSpec.plain.varTypes Tryz.prog ++ Tryz.f8.resultTypes.toList).any (Tryz.prog.veiledRec ·))) = true := by kernel_rfl
theorem urcuLays_j31 : (Rows.urcuLaysRow.veiledFits Tryz.prog Tryz.f8.params.toList (Tryz.f8.params.toList ++ Rows.urcuLaysSpec.plain.varTypes Tryz.prog ++ Tryz.f8.resultTypes.toList)) = true := by kernel_rfl
theorem urcuLays_facts : joinedFacts Tryz.prog 8 Tryz.f8 Rows.urcuLaysSpec Rows.urcuLaysRow = true := by
  unfold joinedFacts
  exact andI (andI (andI (andI (andI (andI (andI (andI (andI (andI (andI (andI (andI (andI (andI (andI (andI (andI (andI (andI (andI (andI (andI (andI (andI (andI (andI (andI (andI (andI (andI urcuLays_j0 urcuLays_j1) urcuLays_j2) urcuLays_j3) urcuLays_j4) urcuLays_j5) urcuLays_j6) urcuLays_j7) urcuLays_j8) urcuLays_j9) urcuLays_j10) urcuLays_j11) urcuLays_j12) urcuLays_j13) urcuLays_j14) urcuLays_j15) urcuLays_j16) urcuLays_j17) urcuLays_j18) urcuLays_j19) urcuLays_j20) urcuLays_j21) urcuLays_j22) urcuLays_j23) urcuLays_j24) urcuLays_j25) urcuLays_j26) urcuLays_j27) urcuLays_j28) urcuLays_j29) urcuLays_j30) urcuLays_j31
theorem urcuLays_holds : Rows.UrcuLaysSaid :=
  OpenClaim.holds_of_wide 8 Tryz.f8 rfl rfl rfl rfl rfl rfl rfl ⟨rfl, rfl, rfl, rfl, rfl⟩ rfl rfl rfl rfl rfl (by kernel_rfl) Tryz.func8 urcuLays_facts
    (of_decide_eq_true (by kernel_rfl)) (by unfold Func.isWrapper; first | (rw [if_pos (by decide +kernel)]; kernel_rfl) | (rw [if_neg (by decide +kernel)]; exact ⟨rfl, rfl⟩))
    (fun os started H enc _ => urcuLays_lifted os started H enc)
theorem urcuLays_plain (f : FuncId) (fn : Func) (hf : Tryz.pinned.checked.prog.funcNamed "respite/respitelaw16.UrcuLays" = some f) (hfn : Tryz.pinned.checked.prog.funcs[f]? = some fn) :
    true = Tryz.pinned.checked.prog.looks [] ∧ ∀ (j : Nat) t, fn.params[j]? = some t → Tryz.pinned.checked.prog.wantsStandIn t = false := by
  obtain rfl : f = 8 := Option.some.inj ((show Tryz.prog.funcNamed "respite/respitelaw16.UrcuLays" = some 8 by kernel_rfl).symm.trans hf) |>.symm
  obtain rfl : fn = Tryz.f8 := (Option.some.inj (Tryz.func8.symm.trans hfn)).symm
  refine ⟨by kernel_rfl, fun j t ht => ?_⟩
  have hm : t ∈ ([23, 23, 3, 3] : List Nat) := by simpa [show Tryz.f8.params.toList = [23, 23, 3, 3] from rfl] using Array.mem_of_getElem? ht
  have hall : (([23, 23, 3, 3] : List Nat).all fun u => !Tryz.prog.wantsStandIn u) = true := by kernel_rfl
  show Tryz.prog.wantsStandIn t = false
  simpa using List.all_eq_true.1 hall t hm
theorem urcuLays_card : Rows.UrcuLaysCardSaid :=
  Claim7.holds_tied_plain_at .later [] _ _ _ _ urcuLays_holds (fun _ h => by cases h) (by kernel_rfl) (fun _ h => by cases h) urcuLays_row_tie rfl ⟨rfl, rfl⟩ (by kernel_rfl) rfl urcuLays_plain (by kernel_rfl)
end Go.Proofs.YteefnlbapebamaaGreatDoor
