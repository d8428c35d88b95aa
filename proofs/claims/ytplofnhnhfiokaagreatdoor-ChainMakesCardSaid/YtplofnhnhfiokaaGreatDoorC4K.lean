/-
  The claim ChainMakes: the law's contract, for every input from outside, the listed variables read as listed; the row, and the tied card.
-/
import Derived.Test.YtplofnhnhfiokaaGreatDoorQ12
import Derived.Test.YtplofnhnhfiokaaGreatDoorTie
import Derived.Test.YtplofnhnhfiokaaGreatDoorCards
import Derived.Lay
import Derived.SevenTiedAt
import Derived.Stop.Joined
set_option linter.unusedVariables false
namespace Go.Proofs.YtplofnhnhfiokaaGreatDoor
open Go Go.AL Go.ChangeShapes Go.WideShapes Go.ChangeAt Go.RowKit

set_option maxHeartbeats 1600000 in
set_option maxRecDepth 100000 in
theorem chainMakes_lifted (os : Os) (started : os.Started) (H : Type) (enc : TypeId × Value → H) :
    ReturnsInHanded {} Tryz.checked os 5 .any (fun w args => (Rows.chainMakesSpec.pre enc Tryz.prog Tryz.f5 Rows.chainMakesRow.domain false w args ∧ laidMetH Tryz.prog Rows.chainMakesRow.laid w) ∧ sizedMet enc Tryz.prog Tryz.f5 (OpenSpec.ofChange Rows.chainMakesSpec) false w args)
      (Rows.chainMakesSpec.post enc Tryz.prog Tryz.f5 false true false false) := by
  refine Go.AL.returnsInHanded_and_shaped (C := Tryz.checked) (X := fun w _ => laidMetH Tryz.prog Rows.chainMakesRow.laid w) (fun _ _ _ hh h => h.of_heap hh) own started (by kernel_rfl) Tryz.func5
    (ChangeSpec.witness_shaped (enc := enc) (C := Tryz.checked) (os := os) (X := fun w _ => laidMetH Tryz.prog Rows.chainMakesRow.laid w) false (laidW os) #[.slice none 0 0, .slice none 0 0, .int .i64 0] 8 (laidW_os os)
      (World.shaped_of_ZipB (by kernel_rfl) (by kernel_rfl)) (by kernel_rfl) (by kernel_rfl) (by kernel_rfl)
      (laidW_met os _)) ?_
  intro W base args ds gs before hval0 hW hL hS
  obtain ⟨g, hg⟩ := gl_exists hL hS
  have hval : ∀ (j : Nat) t v, Tryz.f5.params[j]? = some t → args[j]? = some v → Value.okWide Tryz.prog W .any base t v := hval0
  have hW' := hW
  obtain ⟨p, q, hA0, hV, _, _, _⟩ := hW
  have hA : DataW.TrodAll enc Tryz.prog W 0 (fun _ => true) true Tryz.f5.params.toList args.toList ds p := hA0
  rw [show Tryz.f5.params.toList = [46, 23, 3] from rfl] at hA
  obtain ⟨v0, a0, d0, e0, p0, q0, ha0, rfl, hp0, h0, hA⟩ := trodAll_cons hA
  obtain ⟨v1, a1, d1, e1, p1, q1, ha1, rfl, hp1, h1, hA⟩ := trodAll_cons hA
  obtain ⟨v2, a2, d2, e2, p2, q2, ha2, rfl, hp2, h2, hA⟩ := trodAll_cons hA
  obtain ⟨hn, rfl, hm⟩ := trodAll_nil hA
  obtain rfl : args = #[v0, v1, v2] := by cases args; simp_all
  obtain ⟨x0, b0, r0⟩ := open_prs (okWide_slice Tryz.underlying46 (hval 0 46 v0 rfl rfl)) h0
  obtain ⟨x1, b1, r1⟩ := open_ints (okWide_slice Tryz.underlying23 (hval 1 23 v1 rfl rfl)) h1
  obtain ⟨x2, b2, r2⟩ := open_int (okWide_int Tryz.underlying3 (hval 2 3 v2 rfl rfl)) h2
  have hgs : gs = [] := by
    cases gs with
    | nil => rfl
    | cons => cases hV
  subst hgs
  have hc : ACalls Tryz.prog 5 [encPs x0, ivs x1, .v (.int .i64 x2)] (fixes (glx g)) (one (.v (.bool true)) (fixes (glx g))) := chm_law g x0 x1 x2
  refine (law_callsF (glx g) hc (W := W) (args := #[v0, v1, v2]) hg ⟨_, _, rfl, r0, _, _, rfl, r1, _, _, rfl, r2, rfl⟩).mono fun e W1 ⟨he, hB⟩ => ?_
  subst he
  exact ⟨_, rfl, post_law kids full (fun t ht => of_decide_eq_true (List.all_eq_true.1 (show ([46, 23, 3] : List Nat).all (fun t => decide (t < Tryz.prog.types.size)) = true by kernel_rfl) t ht)) hW' hB rfl rfl rfl rfl rfl Tryz.underlying4⟩

theorem andI {a b : Bool} (ha : a = true) (hb : b = true) : (a && b) = true := by rw [ha, hb]; rfl
set_option maxRecDepth 100000
theorem chainMakes_j0 : (Rows.chainMakesRow.wf (OpenSpec.ofChange Rows.chainMakesSpec)) = true := by kernel_rfl
theorem chainMakes_j1 : (laidOutB Tryz.prog) = true := by kernel_rfl
theorem chainMakes_j2 : (mapsRowed Tryz.prog) = true := by kernel_rfl
theorem chainMakes_j3 : (Tryz.f5.params.all (Tryz.prog.readableRec ·)) = true := by kernel_rfl
theorem chainMakes_j4 : (namedTie Tryz.prog Rows.chainMakesRow.named Rows.chainMakesSpec.vars) = true := by kernel_rfl
theorem chainMakes_j5 : ((Rows.chainMakesRow.stops == [])) = true := by kernel_rfl
theorem chainMakes_j6 : ((Tryz.prog.stops == [])) = true := by kernel_rfl
theorem chainMakes_j7 : ((Rows.chainMakesRow.knobs == [])) = true := by kernel_rfl
theorem chainMakes_j8 : ((Tryz.prog.stopKnobs == [])) = true := by kernel_rfl
theorem chainMakes_j9 : ((Rows.chainMakesRow.inPlace == Tryz.prog.inPlace 5)) = true := by kernel_rfl
theorem chainMakes_j10 : ((Rows.chainMakesRow.unfollowed == Tryz.prog.unfollowed 5)) = true := by kernel_rfl
theorem chainMakes_j11 : ((Rows.chainMakesRow.recurses == Tryz.prog.recurses 5)) = true := by kernel_rfl
theorem chainMakes_j12 : ((Rows.chainMakesRow.named == Tryz.prog.varsNamed 5)) = true := by kernel_rfl
theorem chainMakes_j13 : ((Rows.chainMakesRow.maps == (Tryz.f5.params.toList ++ Rows.chainMakesSpec.plain.varTypes Tryz.prog).any (Tryz.prog.mapsRec ·))) = true := by kernel_rfl
theorem chainMakes_j14 : ((Rows.chainMakesRow.ifaces == (Tryz.f5.params.toList ++ Rows.chainMakesSpec.plain.varTypes Tryz.prog).any (Tryz.prog.ifacesRec ·))) = true := by kernel_rfl
theorem chainMakes_j15 : ((Rows.chainMakesRow.mapsOut == Tryz.prog.mapsAmong Tryz.f5.resultTypes.toList)) = true := by kernel_rfl
theorem chainMakes_j16 : ((Rows.chainMakesRow.loops == (Tryz.f5.params.toList ++ Rows.chainMakesSpec.plain.varTypes Tryz.prog).any (Tryz.prog.loopsFrom ·))) = true := by kernel_rfl
theorem chainMakes_j17 : ((Rows.chainMakesRow.wideKeys == (Tryz.f5.params.toList ++ Rows.chainMakesSpec.plain.varTypes Tryz.prog ++ Tryz.f5.resultTypes.toList).any (Tryz.prog.wideKeysFrom ·))) = true := by kernel_rfl
theorem chainMakes_j18 : (Rows.chainMakesSpec.vars.all (Tryz.prog.varReadable ·)) = true := by kernel_rfl
theorem chainMakes_j19 : (Tryz.f5.resultTypes.all (fun t => Tryz.prog.readableRec t && decide (t < Tryz.prog.types.size))) = true := by kernel_rfl
theorem chainMakes_j20 : ((Rows.chainMakesRow.ifacesOut == Tryz.f5.resultTypes.toList.any (Tryz.prog.ifacesRec ·))) = true := by kernel_rfl
theorem chainMakes_j21 : ((Rows.chainMakesRow.loopsOut == Tryz.f5.resultTypes.toList.any (Tryz.prog.loopsFrom ·))) = true := by kernel_rfl
theorem chainMakes_j22 : ((Rows.chainMakesRow.plainKeys == Tryz.prog.plainKeys)) = true := by kernel_rfl
theorem chainMakes_j23 : (Rows.chainMakesRow.shortTexts.isNone) = true := by kernel_rfl
theorem chainMakes_j24 : (Tryz.prog.stopsHeard) = true := by kernel_rfl
theorem chainMakes_j25 : (Tryz.prog.mayEnter) = true := by kernel_rfl
theorem chainMakes_j26 : ((Rows.chainMakesRow.lifted == Tryz.prog.liftsFinal)) = true := by kernel_rfl
theorem chainMakes_j27 : ((Tryz.prog.make == some Rows.chainMakesRow.make)) = true := by kernel_rfl
theorem chainMakes_j28 : ((Rows.chainMakesRow.kinds == (if Rows.chainMakesRow.domain.isEmpty then [] else Tryz.f5.params.toList.map fun t => match Tryz.prog.underlying t with | some (.int k) => some k | _ => none))) = true := by kernel_rfl
theorem chainMakes_j29 : ((Rows.chainMakesRow.pinned == Rows.chainMakesRow.pinnedBy)) = true := by kernel_rfl
theorem chainMakes_j30 : ((Rows.chainMakesRow.veiled == (Tryz.f5.params.toList ++ Rows.chainMakesSpec.plain.varTypes Tryz.prog ++ Tryz.f5.resultTypes.toList).any (Tryz.prog.veiledRec ·))) = true := by kernel_rfl
theorem chainMakes_j31 : (Rows.chainMakesRow.veiledFits Tryz.prog Tryz.f5.params.toList (Tryz.f5.params.toList ++ Rows.chainMakesSpec.plain.varTypes Tryz.prog ++ Tryz.f5.resultTypes.toList)) = true := by kernel_rfl
theorem chainMakes_facts : joinedFacts Tryz.prog 5 Tryz.f5 Rows.chainMakesSpec Rows.chainMakesRow = true := by
  unfold joinedFacts
  exact andI (andI (andI (andI (andI (andI (andI (andI (andI (andI (andI (andI (andI (andI (andI (andI (andI (andI (andI (andI (andI (andI (andI (andI (andI (andI (andI (andI (andI (andI (andI chainMakes_j0 chainMakes_j1) chainMakes_j2) chainMakes_j3) chainMakes_j4) chainMakes_j5) chainMakes_j6) chainMakes_j7) chainMakes_j8) chainMakes_j9) chainMakes_j10) chainMakes_j11) chainMakes_j12) chainMakes_j13) chainMakes_j14) chainMakes_j15) chainMakes_j16) chainMakes_j17) chainMakes_j18) chainMakes_j19) chainMakes_j20) chainMakes_j21) chainMakes_j22) chainMakes_j23) chainMakes_j24) chainMakes_j25) chainMakes_j26) chainMakes_j27) chainMakes_j28) chainMakes_j29) chainMakes_j30) chainMakes_j31
theorem chainMakes_holds : Rows.ChainMakesSaid :=
  OpenClaim.holds_of_wide 5 Tryz.f5 rfl rfl rfl rfl rfl rfl rfl ⟨rfl, rfl, rfl, rfl, rfl⟩ rfl rfl rfl rfl rfl (by kernel_rfl) Tryz.func5 chainMakes_facts
    (of_decide_eq_true (by kernel_rfl)) (by unfold Func.isWrapper; first | (rw [if_pos (by decide +kernel)]; kernel_rfl) | (rw [if_neg (by decide +kernel)]; exact ⟨rfl, rfl⟩))
    (fun os started H enc _ => chainMakes_lifted os started H enc)
theorem chainMakes_plain (f : FuncId) (fn : Func) (hf : Tryz.pinned.checked.prog.funcNamed "respite/respitelaw18.ChainMakes" = some f) (hfn : Tryz.pinned.checked.prog.funcs[f]? = some fn) :
    true = Tryz.pinned.checked.prog.looks [] ∧ ∀ (j : Nat) t, fn.params[j]? = some t → Tryz.pinned.checked.prog.wantsStandIn t = false := by
  obtain rfl : f = 5 := Option.some.inj ((show Tryz.prog.funcNamed "respite/respitelaw18.ChainMakes" = some 5 by kernel_rfl).symm.trans hf) |>.symm
  obtain rfl : fn = Tryz.f5 := (Option.some.inj (Tryz.func5.symm.trans hfn)).symm
  refine ⟨by kernel_rfl, fun j t ht => ?_⟩
  have hm : t ∈ ([46, 23, 3] : List Nat) := by simpa [show Tryz.f5.params.toList = [46, 23, 3] from rfl] using Array.mem_of_getElem? ht
  have hall : (([46, 23, 3] : List Nat).all fun u => !Tryz.prog.wantsStandIn u) = true := by kernel_rfl
  show Tryz.prog.wantsStandIn t = false
  simpa using List.all_eq_true.1 hall t hm
theorem chainMakes_card : Rows.ChainMakesCardSaid :=
  Claim7.holds_tied_plain_at .later [] _ _ _ _ chainMakes_holds (fun _ h => by cases h) (by kernel_rfl) (fun _ h => by cases h) chainMakes_row_tie rfl ⟨rfl, rfl⟩ (by kernel_rfl) rfl chainMakes_plain (by kernel_rfl)
end Go.Proofs.YtplofnhnhfiokaaGreatDoor
