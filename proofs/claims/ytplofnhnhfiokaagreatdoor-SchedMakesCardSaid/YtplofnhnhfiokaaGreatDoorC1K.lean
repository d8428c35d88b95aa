/-
  The claim SchedMakes: the law's contract, for every input from outside, the listed variables read as listed; the row, and the tied card.
-/
import Derived.Test.YtplofnhnhfiokaaGreatDoorK11
import Derived.Test.YtplofnhnhfiokaaGreatDoorTie
import Derived.Test.YtplofnhnhfiokaaGreatDoorCards
import Derived.Lay
import Derived.SevenTiedAt
import Derived.Stop.Joined
set_option linter.unusedVariables false
namespace Go.Proofs.YtplofnhnhfiokaaGreatDoor
open Go Go.AL Go.ChangeShapes Go.WideShapes Go.ChangeAt Go.RowKit

set_option maxHeartbeats 1600000 in
set_option maxRecDepth 100000 in
theorem schedMakes_lifted (os : Os) (started : os.Started) (H : Type) (enc : TypeId × Value → H) :
    ReturnsInHanded {} Tryz.checked os 3 .any (fun w args => (Rows.schedMakesSpec.pre enc Tryz.prog Tryz.f3 Rows.schedMakesRow.domain false w args ∧ laidMetH Tryz.prog Rows.schedMakesRow.laid w) ∧ sizedMet enc Tryz.prog Tryz.f3 (OpenSpec.ofChange Rows.schedMakesSpec) false w args)
      (Rows.schedMakesSpec.post enc Tryz.prog Tryz.f3 false true false false) := by
  refine Go.AL.returnsInHanded_and_shaped (C := Tryz.checked) (X := fun w _ => laidMetH Tryz.prog Rows.schedMakesRow.laid w) (fun _ _ _ hh h => h.of_heap hh) own started (by kernel_rfl) Tryz.func3
    (ChangeSpec.witness_shaped (enc := enc) (C := Tryz.checked) (os := os) (X := fun w _ => laidMetH Tryz.prog Rows.schedMakesRow.laid w) false (laidW os) #[.string ⟨#[]⟩, .slice none 0 0, .slice none 0 0, .slice none 0 0, .int .i64 0] 8 (laidW_os os)
      (World.shaped_of_ZipB (by kernel_rfl) (by kernel_rfl)) (by kernel_rfl) (by kernel_rfl) (by kernel_rfl)
      (laidW_met os _)) ?_
  intro W base args ds gs before hval0 hW hL hS
  obtain ⟨g, t0, f0, hg⟩ := gl2_exists hL hS
  have hval : ∀ (j : Nat) t v, Tryz.f3.params[j]? = some t → args[j]? = some v → Value.okWide Tryz.prog W .any base t v := hval0
  have hW' := hW
  obtain ⟨p, q, hA0, hV, _, _, _⟩ := hW
  have hA : DataW.TrodAll enc Tryz.prog W 0 (fun _ => true) true Tryz.f3.params.toList args.toList ds p := hA0
  rw [show Tryz.f3.params.toList = [9, 22, 23, 23, 3] from rfl] at hA
  obtain ⟨v0, a0, d0, e0, p0, q0, ha0, rfl, hp0, h0, hA⟩ := trodAll_cons hA
  obtain ⟨v1, a1, d1, e1, p1, q1, ha1, rfl, hp1, h1, hA⟩ := trodAll_cons hA
  obtain ⟨v2, a2, d2, e2, p2, q2, ha2, rfl, hp2, h2, hA⟩ := trodAll_cons hA
  obtain ⟨v3, a3, d3, e3, p3, q3, ha3, rfl, hp3, h3, hA⟩ := trodAll_cons hA
  obtain ⟨v4, a4, d4, e4, p4, q4, ha4, rfl, hp4, h4, hA⟩ := trodAll_cons hA
  obtain ⟨hn, rfl, hm⟩ := trodAll_nil hA
  obtain rfl : args = #[v0, v1, v2, v3, v4] := by cases args; simp_all
  obtain ⟨x0, b0, r0⟩ := open_text Tryz.underlying9 (hval 0 9 v0 rfl rfl) h0
  obtain ⟨x1, b1, r1⟩ := open_strings (okWide_slice Tryz.underlying22 (hval 1 22 v1 rfl rfl)) h1
  obtain ⟨x2, b2, r2⟩ := open_ints (okWide_slice Tryz.underlying23 (hval 2 23 v2 rfl rfl)) h2
  obtain ⟨x3, b3, r3⟩ := open_ints (okWide_slice Tryz.underlying23 (hval 3 23 v3 rfl rfl)) h3
  obtain ⟨x4, b4, r4⟩ := open_int (okWide_int Tryz.underlying3 (hval 4 3 v4 rfl rfl)) h4
  have hgs : gs = [] := by
    cases gs with
    | nil => rfl
    | cons => cases hV
  subst hgs
  have hc : ACalls Tryz.prog 3 [.v (.string ⟨x0.toArray⟩), .sl (x1.map sv), ivs x2, ivs x3, .v (.int .i64 x4)] (fixes (glx2 g t0 f0)) (one (.v (.bool true)) (fixes (glx2 g t0 f0))) := makes_ok g t0 f0 x0 x1 x2 x3 x4
  refine (law_callsF (glx2 g t0 f0) hc (W := W) (args := #[v0, v1, v2, v3, v4]) hg ⟨_, _, rfl, r0, _, _, rfl, r1, _, _, rfl, r2, _, _, rfl, r3, _, _, rfl, r4, rfl⟩).mono fun e W1 ⟨he, hB⟩ => ?_
  subst he
  exact ⟨_, rfl, post_law kids full (fun t ht => of_decide_eq_true (List.all_eq_true.1 (show ([9, 22, 23, 23, 3] : List Nat).all (fun t => decide (t < Tryz.prog.types.size)) = true by kernel_rfl) t ht)) hW' hB rfl rfl rfl rfl rfl Tryz.underlying4⟩

theorem andI {a b : Bool} (ha : a = true) (hb : b = true) : (a && b) = true := by rw [ha, hb]; rfl
set_option maxRecDepth 100000
theorem schedMakes_j0 : (Rows.schedMakesRow.wf (OpenSpec.ofChange Rows.schedMakesSpec)) = true := by kernel_rfl
theorem schedMakes_j1 : (laidOutB Tryz.prog) = true := by kernel_rfl
theorem schedMakes_j2 : (mapsRowed Tryz.prog) = true := by kernel_rfl
theorem schedMakes_j3 : (Tryz.f3.params.all (Tryz.prog.readableRec ·)) = true := by kernel_rfl
theorem schedMakes_j4 : (namedTie Tryz.prog Rows.schedMakesRow.named Rows.schedMakesSpec.vars) = true := by kernel_rfl
theorem schedMakes_j5 : ((Rows.schedMakesRow.stops == [])) = true := by kernel_rfl
theorem schedMakes_j6 : ((Tryz.prog.stops == [])) = true := by kernel_rfl
theorem schedMakes_j7 : ((Rows.schedMakesRow.knobs == [])) = true := by kernel_rfl
theorem schedMakes_j8 : ((Tryz.prog.stopKnobs == [])) = true := by kernel_rfl
theorem schedMakes_j9 : ((Rows.schedMakesRow.inPlace == Tryz.prog.inPlace 3)) = true := by kernel_rfl
theorem schedMakes_j10 : ((Rows.schedMakesRow.unfollowed == Tryz.prog.unfollowed 3)) = true := by kernel_rfl
theorem schedMakes_j11 : ((Rows.schedMakesRow.recurses == Tryz.prog.recurses 3)) = true := by kernel_rfl
theorem schedMakes_j12 : ((Rows.schedMakesRow.named == Tryz.prog.varsNamed 3)) = true := by kernel_rfl
theorem schedMakes_j13 : ((Rows.schedMakesRow.maps == (Tryz.f3.params.toList ++ Rows.schedMakesSpec.plain.varTypes Tryz.prog).any (Tryz.prog.mapsRec ·))) = true := by kernel_rfl
theorem schedMakes_j14 : ((Rows.schedMakesRow.ifaces == (Tryz.f3.params.toList ++ Rows.schedMakesSpec.plain.varTypes Tryz.prog).any (Tryz.prog.ifacesRec ·))) = true := by kernel_rfl
theorem schedMakes_j15 : ((Rows.schedMakesRow.mapsOut == Tryz.prog.mapsAmong Tryz.f3.resultTypes.toList)) = true := by kernel_rfl
theorem schedMakes_j16 : ((Rows.schedMakesRow.loops == (Tryz.f3.params.toList ++ Rows.schedMakesSpec.plain.varTypes Tryz.prog).any (Tryz.prog.loopsFrom ·))) = true := by kernel_rfl
theorem schedMakes_j17 : ((Rows.schedMakesRow.wideKeys == (Tryz.f3.params.toList ++ Rows.schedMakesSpec.plain.varTypes Tryz.prog ++ Tryz.f3.resultTypes.toList).any (Tryz.prog.wideKeysFrom ·))) = true := by kernel_rfl
theorem schedMakes_j18 : (Rows.schedMakesSpec.vars.all (Tryz.prog.varReadable ·)) = true := by kernel_rfl
theorem schedMakes_j19 : (Tryz.f3.resultTypes.all (fun t => Tryz.prog.readableRec t && decide (t < Tryz.prog.types.size))) = true := by kernel_rfl
theorem schedMakes_j20 : ((Rows.schedMakesRow.ifacesOut == Tryz.f3.resultTypes.toList.any (Tryz.prog.ifacesRec ·))) = true := by kernel_rfl
theorem schedMakes_j21 : ((Rows.schedMakesRow.loopsOut == Tryz.f3.resultTypes.toList.any (Tryz.prog.loopsFrom ·))) = true := by kernel_rfl
theorem schedMakes_j22 : ((Rows.schedMakesRow.plainKeys == Tryz.prog.plainKeys)) = true := by kernel_rfl
theorem schedMakes_j23 : (Rows.schedMakesRow.shortTexts.isNone) = true := by kernel_rfl
theorem schedMakes_j24 : (Tryz.prog.stopsHeard) = true := by kernel_rfl
theorem schedMakes_j25 : (Tryz.prog.mayEnter) = true := by kernel_rfl
theorem schedMakes_j26 : ((Rows.schedMakesRow.lifted == Tryz.prog.liftsFinal)) = true := by kernel_rfl
theorem schedMakes_j27 : ((Tryz.prog.make == some Rows.schedMakesRow.make)) = true := by kernel_rfl
theorem schedMakes_j28 : ((Rows.schedMakesRow.kinds == (if Rows.schedMakesRow.domain.isEmpty then [] else Tryz.f3.params.toList.map fun t => match Tryz.prog.underlying t with | some (.int k) => some k | _ => none))) = true := by kernel_rfl
theorem schedMakes_j29 : ((Rows.schedMakesRow.pinned == Rows.schedMakesRow.pinnedBy)) = true := by kernel_rfl
theorem schedMakes_j30 : ((Rows.schedMakesRow.veiled == (Tryz.f3.params.toList ++ Rows.schedMakesSpec.plain.varTypes Tryz.prog ++ Tryz.f3.resultTypes.toList).any (Tryz.prog.veiledRec ·))) = true := by kernel_rfl
theorem schedMakes_j31 : (Rows.schedMakesRow.veiledFits Tryz.prog Tryz.f3.params.toList (Tryz.f3.params.toList ++ Rows.schedMakesSpec.plain.varTypes Tryz.prog ++ Tryz.f3.resultTypes.toList)) = true := by kernel_rfl
theorem schedMakes_facts : joinedFacts Tryz.prog 3 Tryz.f3 Rows.schedMakesSpec Rows.schedMakesRow = true := by
  unfold joinedFacts
  exact andI (andI (andI (andI (andI (andI (andI (andI (andI (andI (andI (andI (andI (andI (andI (andI (andI (andI (andI (andI (andI (andI (andI (andI (andI (andI (andI (andI (andI (andI (andI schedMakes_j0 schedMakes_j1) schedMakes_j2) schedMakes_j3) schedMakes_j4) schedMakes_j5) schedMakes_j6) schedMakes_j7) schedMakes_j8) schedMakes_j9) schedMakes_j10) schedMakes_j11) schedMakes_j12) schedMakes_j13) schedMakes_j14) schedMakes_j15) schedMakes_j16) schedMakes_j17) schedMakes_j18) schedMakes_j19) schedMakes_j20) schedMakes_j21) schedMakes_j22) schedMakes_j23) schedMakes_j24) schedMakes_j25) schedMakes_j26) schedMakes_j27) schedMakes_j28) schedMakes_j29) schedMakes_j30) schedMakes_j31
theorem schedMakes_holds : Rows.SchedMakesSaid :=
  OpenClaim.holds_of_wide 3 Tryz.f3 rfl rfl rfl rfl rfl rfl rfl ⟨rfl, rfl, rfl, rfl, rfl⟩ rfl rfl rfl rfl rfl (by kernel_rfl) Tryz.func3 schedMakes_facts
    (of_decide_eq_true (by kernel_rfl)) (by unfold Func.isWrapper; first | (rw [if_pos (by decide +kernel)]; kernel_rfl) | (rw [if_neg (by decide +kernel)]; exact ⟨rfl, rfl⟩))
    (fun os started H enc _ => schedMakes_lifted os started H enc)
theorem schedMakes_plain (f : FuncId) (fn : Func) (hf : Tryz.pinned.checked.prog.funcNamed "respite/respitelaw09.SchedMakes" = some f) (hfn : Tryz.pinned.checked.prog.funcs[f]? = some fn) :
    true = Tryz.pinned.checked.prog.looks [] ∧ ∀ (j : Nat) t, fn.params[j]? = some t → Tryz.pinned.checked.prog.wantsStandIn t = false := by
  obtain rfl : f = 3 := Option.some.inj ((show Tryz.prog.funcNamed "respite/respitelaw09.SchedMakes" = some 3 by kernel_rfl).symm.trans hf) |>.symm
  obtain rfl : fn = Tryz.f3 := (Option.some.inj (Tryz.func3.symm.trans hfn)).symm
  refine ⟨by kernel_rfl, fun j t ht => ?_⟩
  have hm : t ∈ ([9, 22, 23, 23, 3] : List Nat) := by simpa [show Tryz.f3.params.toList = [9, 22, 23, 23, 3] from rfl] using Array.mem_of_getElem? ht
  have hall : (([9, 22, 23, 23, 3] : List Nat).all fun u => !Tryz.prog.wantsStandIn u) = true := by kernel_rfl
  show Tryz.prog.wantsStandIn t = false
  simpa using List.all_eq_true.1 hall t hm
theorem schedMakes_card : Rows.SchedMakesCardSaid :=
  Claim7.holds_tied_plain_at .later [] _ _ _ _ schedMakes_holds (fun _ h => by cases h) (by kernel_rfl) (fun _ h => by cases h) schedMakes_row_tie rfl ⟨rfl, rfl⟩ (by kernel_rfl) rfl schedMakes_plain (by kernel_rfl)
end Go.Proofs.YtplofnhnhfiokaaGreatDoor
