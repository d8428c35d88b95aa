/-
  The claim UrcuRuns: the law's contract, for every input from outside, the listed variables read as listed; the row, and the tied card.
-/
import Derived.Test.YteefnlbapebamaaGreatDoorD12
import Derived.Test.YteefnlbapebamaaGreatDoorTie
import Derived.Test.YteefnlbapebamaaGreatDoorCards
import Derived.Lay
import Derived.SevenTiedAt
import Derived.Stop.Joined
set_option linter.unusedVariables false
namespace Go.Proofs.YteefnlbapebamaaGreatDoor
open Go Go.AL Go.ChangeShapes Go.WideShapes Go.ChangeAt Go.RowKit

set_option maxHeartbeats 1600000 in
set_option maxRecDepth 100000 in
theorem urcuRuns_lifted (os:Os) (started:os.Started) (H:Type) (enc:TypeId × Value→H) :
    ReturnsInHanded {} Tryz.checked os 10 .any (fun w args=>(Rows.urcuRunsSpec.pre enc Tryz.prog Tryz.f10 Rows.urcuRunsRow.domain false w args∧laidMetH Tryz.prog Rows.urcuRunsRow.laid w)∧sizedMet enc Tryz.prog Tryz.f10 (OpenSpec.ofChange Rows.urcuRunsSpec) false w args)
      (Rows.urcuRunsSpec.post enc Tryz.prog Tryz.f10 false true false false):=by
  refine Go.AL.returnsInHanded_and_shaped (C:=Tryz.checked) (X:=fun w _=>laidMetH Tryz.prog Rows.urcuRunsRow.laid w) (fun _ _ _ hh h=>h.of_heap hh) own started (by kernel_rfl) Tryz.func10
    (ChangeSpec.witness_shaped (enc:=enc) (C:=Tryz.checked) (os:=os) (X:=fun w _=>laidMetH Tryz.prog Rows.urcuRunsRow.laid w) false (laidW os) #[.bool false,.slice none 0 0,.int .i64 0,.slice none 0 0] 8 (laidW_os os)
      (World.shaped_of_ZipB (by kernel_rfl) (by kernel_rfl)) (by kernel_rfl) (by kernel_rfl) (by kernel_rfl)
      (laidW_met os _)) ?_
  intro W base args ds gs before hval0 hW hL hS
  obtain ⟨g,hg⟩:=gl_exists hL hS
  have hval:∀ (j:Nat) t v,Tryz.f10.params[j]? = some t→args[j]? = some v→Value.okWide Tryz.prog W .any base t v:=hval0
  have hW':=hW
  obtain ⟨p,q,hA0,hV,_,_,_⟩:=hW
  have hA:DataW.TrodAll enc Tryz.prog W 0 (fun _=>true) true Tryz.f10.params.toList args.toList ds p:=hA0
  rw [show Tryz.f10.params.toList=[4,68,3,51] from rfl] at hA
  obtain ⟨v0,a0,d0,e0,p0,q0,ha0,rfl,hp0,h0,hA⟩:=trodAll_cons hA
  obtain ⟨v1,a1,d1,e1,p1,q1,ha1,rfl,hp1,h1,hA⟩:=trodAll_cons hA
  obtain ⟨v2,a2,d2,e2,p2,q2,ha2,rfl,hp2,h2,hA⟩:=trodAll_cons hA
  obtain ⟨v3,a3,d3,e3,p3,q3,ha3,rfl,hp3,h3,hA⟩:=trodAll_cons hA
  obtain ⟨hn,rfl,hm⟩:=trodAll_nil hA
  obtain rfl:args = #[v0,v1,v2,v3]:=by cases args;simp_all
  obtain ⟨x0,b0,r0⟩:=open_bool (okWide_bool Tryz.underlying4 (hval 0 4 v0 rfl rfl)) h0
  obtain ⟨x1,b1,r1⟩:=open_plans (okWide_slice Tryz.underlying68 (hval 1 68 v1 rfl rfl)) h1
  obtain ⟨x2,b2,r2⟩:=open_int (okWide_int Tryz.underlying3 (hval 2 3 v2 rfl rfl)) h2
  obtain ⟨x3,b3,r3⟩:=open_acts (okWide_slice Tryz.underlying51 (hval 3 51 v3 rfl rfl)) h3
  have hgs:gs=[]:=by
    cases gs with
    | nil=>rfl
    | cons=>cases hV
  subst hgs
  have hc:ACalls Tryz.prog 10 [.v (.bool x0),.sl (x1.map encPl),.v (.int .i64 x2),.sl (x3.map encAct)] (fixes (glx g)) (one (.v (.bool true)) (fixes (glx g))):=urr_law g x0 x1 x2 x3
  refine (law_callsF (glx g) hc (W:=W) (args:=#[v0,v1,v2,v3]) hg ⟨_,_,rfl,r0,_,_,rfl,r1,_,_,rfl,r2,_,_,rfl,r3,rfl⟩).mono fun e W1 ⟨he,hB⟩=>?_
  subst he
  exact ⟨_,rfl,post_law kids full (fun t ht=>of_decide_eq_true (List.all_eq_true.1 (show ([4,68,3,51]:List Nat).all (fun t=>decide (t < Tryz.prog.types.size))=true by kernel_rfl) t ht)) hW' hB rfl rfl rfl rfl rfl Tryz.underlying4⟩

theorem andI {a b:Bool} (ha:a=true) (hb:b=true):(a&&b)=true:=by rw [ha,hb];rfl
set_option maxRecDepth 100000
theorem urcuRuns_j0:(Rows.urcuRunsRow.wf (OpenSpec.ofChange Rows.urcuRunsSpec))=true:=by kernel_rfl
theorem urcuRuns_j1:(laidOutB Tryz.prog)=true:=by kernel_rfl
theorem urcuRuns_j2:(mapsRowed Tryz.prog)=true:=by kernel_rfl
theorem urcuRuns_j3:(Tryz.f10.params.all (Tryz.prog.readableRec ·))=true:=by kernel_rfl
theorem urcuRuns_j4:(namedTie Tryz.prog Rows.urcuRunsRow.named Rows.urcuRunsSpec.vars)=true:=by kernel_rfl
theorem urcuRuns_j5:((Rows.urcuRunsRow.stops == []))=true:=by kernel_rfl
theorem urcuRuns_j6:((Tryz.prog.stops == []))=true:=by kernel_rfl
theorem urcuRuns_j7:((Rows.urcuRunsRow.knobs == []))=true:=by kernel_rfl
theorem urcuRuns_j8:((Tryz.prog.stopKnobs == []))=true:=by kernel_rfl
theorem urcuRuns_j9:((Rows.urcuRunsRow.inPlace == Tryz.prog.inPlace 10))=true:=by kernel_rfl
theorem urcuRuns_j10:((Rows.urcuRunsRow.unfollowed == Tryz.prog.unfollowed 10))=true:=by kernel_rfl
theorem urcuRuns_j11:((Rows.urcuRunsRow.recurses == Tryz.prog.recurses 10))=true:=by kernel_rfl
theorem urcuRuns_j12:((Rows.urcuRunsRow.named == Tryz.prog.varsNamed 10))=true:=by kernel_rfl
theorem urcuRuns_j13:((Rows.urcuRunsRow.maps == (Tryz.f10.params.toList++Rows.urcuRunsSpec.plain.varTypes Tryz.prog).any (Tryz.prog.mapsRec ·)))=true:=by kernel_rfl
theorem urcuRuns_j14:((Rows.urcuRunsRow.ifaces == (Tryz.f10.params.toList++Rows.urcuRunsSpec.plain.varTypes Tryz.prog).any (Tryz.prog.ifacesRec ·)))=true:=by kernel_rfl
theorem urcuRuns_j15:((Rows.urcuRunsRow.mapsOut == Tryz.prog.mapsAmong Tryz.f10.resultTypes.toList))=true:=by kernel_rfl
theorem urcuRuns_j16:((Rows.urcuRunsRow.loops == (Tryz.f10.params.toList++Rows.urcuRunsSpec.plain.varTypes Tryz.prog).any (Tryz.prog.loopsFrom ·)))=true:=by kernel_rfl
theorem urcuRuns_j17:((Rows.urcuRunsRow.wideKeys == (Tryz.f10.params.toList++Rows.urcuRunsSpec.plain.varTypes Tryz.prog++Tryz.f10.resultTypes.toList).any (Tryz.prog.wideKeysFrom ·)))=true:=by kernel_rfl
theorem urcuRuns_j18:(Rows.urcuRunsSpec.vars.all (Tryz.prog.varReadable ·))=true:=by kernel_rfl
theorem urcuRuns_j19:(Tryz.f10.resultTypes.all (fun t=>Tryz.prog.readableRec t&&decide (t < Tryz.prog.types.size)))=true:=by kernel_rfl
theorem urcuRuns_j20:((Rows.urcuRunsRow.ifacesOut == Tryz.f10.resultTypes.toList.any (Tryz.prog.ifacesRec ·)))=true:=by kernel_rfl
theorem urcuRuns_j21:((Rows.urcuRunsRow.loopsOut == Tryz.f10.resultTypes.toList.any (Tryz.prog.loopsFrom ·)))=true:=by kernel_rfl
theorem urcuRuns_j22:((Rows.urcuRunsRow.plainKeys == Tryz.prog.plainKeys))=true:=by kernel_rfl
theorem urcuRuns_j23:(Rows.urcuRunsRow.shortTexts.isNone)=true:=by kernel_rfl
theorem urcuRuns_j24:(Tryz.prog.stopsHeard)=true:=by kernel_rfl
theorem urcuRuns_j25:(Tryz.prog.mayEnter)=true:=by kernel_rfl
theorem urcuRuns_j26:((Rows.urcuRunsRow.lifted == Tryz.prog.liftsFinal))=true:=by kernel_rfl
theorem urcuRuns_j27:((Tryz.prog.make == some Rows.urcuRunsRow.make))=true:=by kernel_rfl
theorem urcuRuns_j28:((Rows.urcuRunsRow.kinds == (if Rows.urcuRunsRow.domain.isEmpty then [] else Tryz.f10.params.toList.map fun t=>match Tryz.prog.underlying t with|some (.int k)=>some k|_=>none)))=true:=by kernel_rfl
theorem urcuRuns_j29:((Rows.urcuRunsRow.pinned == Rows.urcuRunsRow.pinnedBy))=true:=by kernel_rfl
theorem urcuRuns_j30:((Rows.urcuRunsRow.veiled == (Tryz.f10.params.toList++Rows.urcuRunsSpec.plain.varTypes Tryz.prog++Tryz.f10.resultTypes.toList).any (Tryz.prog.veiledRec ·)))=true:=by kernel_rfl
theorem urcuRuns_j31:(Rows.urcuRunsRow.veiledFits Tryz.prog Tryz.f10.params.toList (Tryz.f10.params.toList++Rows.urcuRunsSpec.plain.varTypes Tryz.prog++Tryz.f10.resultTypes.toList))=true:=by kernel_rfl
theorem urcuRuns_facts:joinedFacts Tryz.prog 10 Tryz.f10 Rows.urcuRunsSpec Rows.urcuRunsRow=true:=by
  unfold joinedFacts
  exact andI (andI (andI (andI (andI (andI (andI (andI (andI (andI (andI (andI (andI (andI (andI (andI (andI (andI (andI (andI (andI (andI (andI (andI (andI (andI (andI (andI (andI (andI (andI urcuRuns_j0 urcuRuns_j1) urcuRuns_j2) urcuRuns_j3) urcuRuns_j4) urcuRuns_j5) urcuRuns_j6) urcuRuns_j7) urcuRuns_j8) urcuRuns_j9) urcuRuns_j10) urcuRuns_j11) urcuRuns_j12) urcuRuns_j13) urcuRuns_j14) urcuRuns_j15) urcuRuns_j16) urcuRuns_j17) urcuRuns_j18) urcuRuns_j19) urcuRuns_j20) urcuRuns_j21) urcuRuns_j22) urcuRuns_j23) urcuRuns_j24) urcuRuns_j25) urcuRuns_j26) urcuRuns_j27) urcuRuns_j28) urcuRuns_j29) urcuRuns_j30) urcuRuns_j31
theorem urcuRuns_holds:Rows.UrcuRunsSaid :=
  OpenClaim.holds_of_wide 10 Tryz.f10 rfl rfl rfl rfl rfl rfl rfl ⟨rfl,rfl,rfl,rfl,rfl⟩ rfl rfl rfl rfl rfl (by kernel_rfl) Tryz.func10 urcuRuns_facts
    (of_decide_eq_true (by kernel_rfl)) (by unfold Func.isWrapper;first|(rw [if_pos (by decide +kernel)];kernel_rfl)|(rw [if_neg (by decide +kernel)];exact ⟨rfl,rfl⟩))
    (fun os started H enc _=>urcuRuns_lifted os started H enc)
theorem urcuRuns_plain (f:FuncId) (fn:Func) (hf:Tryz.pinned.checked.prog.funcNamed "respite/respitelaw16.UrcuRuns" = some f) (hfn:Tryz.pinned.checked.prog.funcs[f]? = some fn) :
    true=Tryz.pinned.checked.prog.looks []∧∀ (j:Nat) t,fn.params[j]? = some t→Tryz.pinned.checked.prog.wantsStandIn t=false:=by
  obtain rfl:f=10:=Option.some.inj ((show Tryz.prog.funcNamed "respite/respitelaw16.UrcuRuns" = some 10 by kernel_rfl).symm.trans hf) |>.symm
  obtain rfl:fn=Tryz.f10:=(Option.some.inj (Tryz.func10.symm.trans hfn)).symm
  refine ⟨by kernel_rfl,fun j t ht=>?_⟩
  have hm:t∈([4,68,3,51]:List Nat):=by simpa [show Tryz.f10.params.toList=[4,68,3,51] from rfl] using Array.mem_of_getElem? ht
  have hall:(([4,68,3,51]:List Nat).all fun u=>!Tryz.prog.wantsStandIn u)=true:=by kernel_rfl
  show Tryz.prog.wantsStandIn t=false
  simpa using List.all_eq_true.1 hall t hm
theorem urcuRuns_card:Rows.UrcuRunsCardSaid :=
  Claim7.holds_tied_plain_at .later [] _ _ _ _ urcuRuns_holds (fun _ h=>by cases h) (by kernel_rfl) (fun _ h=>by cases h) urcuRuns_row_tie rfl ⟨rfl,rfl⟩ (by kernel_rfl) rfl urcuRuns_plain (by kernel_rfl)
end Go.Proofs.YteefnlbapebamaaGreatDoor
