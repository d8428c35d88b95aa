/-
  The claim ChainFinds: the law's contract, for every input from outside, the listed variables read as listed; the row, and the tied card.
-/
import Derived.Test.YteefnlbapebamaaGreatDoorE10
import Derived.Test.YteefnlbapebamaaGreatDoorTie
import Derived.Test.YteefnlbapebamaaGreatDoorCards
import Derived.Lay
import Derived.SevenTiedAt
import Derived.Stop.Joined
set_option linter.unusedVariables false
namespace Go.Proofs.YteefnlbapebamaaGreatDoor
open Go Go.AL Go.ChangeShapes Go.WideShapes Go.ChangeAt Go.RowKit

set_option maxHeartbeats 1600000 in
set_option maxRecDepth 100000 in
theorem chainFinds_lifted (os:Os) (started:os.Started) (H:Type) (enc:TypeId × Value→H) :
    ReturnsInHanded {} Tryz.checked os 3 .any (fun w args=>(Rows.chainFindsSpec.pre enc Tryz.prog Tryz.f3 Rows.chainFindsRow.domain false w args∧laidMetH Tryz.prog Rows.chainFindsRow.laid w)∧sizedMet enc Tryz.prog Tryz.f3 (OpenSpec.ofChange Rows.chainFindsSpec) false w args)
      (Rows.chainFindsSpec.post enc Tryz.prog Tryz.f3 false true false false):=by
  refine Go.AL.returnsInHanded_and_shaped (C:=Tryz.checked) (X:=fun w _=>laidMetH Tryz.prog Rows.chainFindsRow.laid w) (fun _ _ _ hh h=>h.of_heap hh) own started (by kernel_rfl) Tryz.func3
    (ChangeSpec.witness_shaped (enc:=enc) (C:=Tryz.checked) (os:=os) (X:=fun w _=>laidMetH Tryz.prog Rows.chainFindsRow.laid w) false (laidW os) #[.slice none 0 0,.slice none 0 0,.int .i64 0] 8 (laidW_os os)
      (World.shaped_of_ZipB (by kernel_rfl) (by kernel_rfl)) (by kernel_rfl) (by kernel_rfl) (by kernel_rfl)
      (laidW_met os _)) ?_
  intro W base args ds gs before hval0 hW hL hS
  obtain ⟨g,hg⟩:=gl_exists hL hS
  have hval:∀ (j:Nat) t v,Tryz.f3.params[j]? = some t→args[j]? = some v→Value.okWide Tryz.prog W .any base t v:=hval0
  have hW':=hW
  obtain ⟨p,q,hA0,hV,_,_,_⟩:=hW
  have hA:DataW.TrodAll enc Tryz.prog W 0 (fun _=>true) true Tryz.f3.params.toList args.toList ds p:=hA0
  rw [show Tryz.f3.params.toList=[22,23,3] from rfl] at hA
  obtain ⟨v0,a0,d0,e0,p0,q0,ha0,rfl,hp0,h0,hA⟩:=trodAll_cons hA
  obtain ⟨v1,a1,d1,e1,p1,q1,ha1,rfl,hp1,h1,hA⟩:=trodAll_cons hA
  obtain ⟨v2,a2,d2,e2,p2,q2,ha2,rfl,hp2,h2,hA⟩:=trodAll_cons hA
  obtain ⟨hn,rfl,hm⟩:=trodAll_nil hA
  obtain rfl:args = #[v0,v1,v2]:=by cases args;simp_all
  obtain ⟨x0,b0,r0⟩:=open_prsR (okWide_slice Tryz.underlying22 (hval 0 22 v0 rfl rfl)) h0
  obtain ⟨x1,b1,r1⟩:=open_ints (okWide_slice Tryz.underlying23 (hval 1 23 v1 rfl rfl)) h1
  obtain ⟨x2,b2,r2⟩:=open_int (okWide_int Tryz.underlying3 (hval 2 3 v2 rfl rfl)) h2
  have hgs:gs=[]:=by
    cases gs with
    | nil=>rfl
    | cons=>cases hV
  subst hgs
  have hc:ACalls Tryz.prog 3 [encPs x0,ivs x1,.v (.int .i64 x2)] (fixes (glx g)) (one (.v (.bool true)) (fixes (glx g))):=chf_law g x0 x1 x2 b0.2
  refine (law_callsF (glx g) hc (W:=W) (args:=#[v0,v1,v2]) hg ⟨_,_,rfl,r0,_,_,rfl,r1,_,_,rfl,r2,rfl⟩).mono fun e W1 ⟨he,hB⟩=>?_
  subst he
  exact ⟨_,rfl,post_law kids full (fun t ht=>of_decide_eq_true (List.all_eq_true.1 (show ([22,23,3]:List Nat).all (fun t=>decide (t < Tryz.prog.types.size))=true by kernel_rfl) t ht)) hW' hB rfl rfl rfl rfl rfl Tryz.underlying4⟩

theorem andI {a b:Bool} (ha:a=true) (hb:b=true):(a&&b)=true:=by rw [ha,hb];rfl
set_option maxRecDepth 100000
theorem chainFinds_j0:(Rows.chainFindsRow.wf (OpenSpec.ofChange Rows.chainFindsSpec))=true:=by kernel_rfl
theorem chainFinds_j1:(laidOutB Tryz.prog)=true:=by kernel_rfl
theorem chainFinds_j2:(mapsRowed Tryz.prog)=true:=by kernel_rfl
theorem chainFinds_j3:(Tryz.f3.params.all (Tryz.prog.readableRec ·))=true:=by kernel_rfl
theorem chainFinds_j4:(namedTie Tryz.prog Rows.chainFindsRow.named Rows.chainFindsSpec.vars)=true:=by kernel_rfl
theorem chainFinds_j5:((Rows.chainFindsRow.stops == []))=true:=by kernel_rfl
theorem chainFinds_j6:((Tryz.prog.stops == []))=true:=by kernel_rfl
theorem chainFinds_j7:((Rows.chainFindsRow.knobs == []))=true:=by kernel_rfl
theorem chainFinds_j8:((Tryz.prog.stopKnobs == []))=true:=by kernel_rfl
theorem chainFinds_j9:((Rows.chainFindsRow.inPlace == Tryz.prog.inPlace 3))=true:=by kernel_rfl
theorem chainFinds_j10:((Rows.chainFindsRow.unfollowed == Tryz.prog.unfollowed 3))=true:=by kernel_rfl
theorem chainFinds_j11:((Rows.chainFindsRow.recurses == Tryz.prog.recurses 3))=true:=by kernel_rfl
theorem chainFinds_j12:((Rows.chainFindsRow.named == Tryz.prog.varsNamed 3))=true:=by kernel_rfl
theorem chainFinds_j13:((Rows.chainFindsRow.maps == (Tryz.f3.params.toList++Rows.chainFindsSpec.plain.varTypes Tryz.prog).any (Tryz.prog.mapsRec ·)))=true:=by kernel_rfl
theorem chainFinds_j14:((Rows.chainFindsRow.ifaces == (Tryz.f3.params.toList++Rows.chainFindsSpec.plain.varTypes Tryz.prog).any (Tryz.prog.ifacesRec ·)))=true:=by kernel_rfl
theorem chainFinds_j15:((Rows.chainFindsRow.mapsOut == Tryz.prog.mapsAmong Tryz.f3.resultTypes.toList))=true:=by kernel_rfl
theorem chainFinds_j16:((Rows.chainFindsRow.loops == (Tryz.f3.params.toList++Rows.chainFindsSpec.plain.varTypes Tryz.prog).any (Tryz.prog.loopsFrom ·)))=true:=by kernel_rfl
theorem chainFinds_j17:((Rows.chainFindsRow.wideKeys == (Tryz.f3.params.toList++Rows.chainFindsSpec.plain.varTypes Tryz.prog++Tryz.f3.resultTypes.toList).any (Tryz.prog.wideKeysFrom ·)))=true:=by kernel_rfl
theorem chainFinds_j18:(Rows.chainFindsSpec.vars.all (Tryz.prog.varReadable ·))=true:=by kernel_rfl
theorem chainFinds_j19:(Tryz.f3.resultTypes.all (fun t=>Tryz.prog.readableRec t&&decide (t < Tryz.prog.types.size)))=true:=by kernel_rfl
theorem chainFinds_j20:((Rows.chainFindsRow.ifacesOut == Tryz.f3.resultTypes.toList.any (Tryz.prog.ifacesRec ·)))=true:=by kernel_rfl
theorem chainFinds_j21:((Rows.chainFindsRow.loopsOut == Tryz.f3.resultTypes.toList.any (Tryz.prog.loopsFrom ·)))=true:=by kernel_rfl
theorem chainFinds_j22:((Rows.chainFindsRow.plainKeys == Tryz.prog.plainKeys))=true:=by kernel_rfl
theorem chainFinds_j23:(Rows.chainFindsRow.shortTexts.isNone)=true:=by kernel_rfl
theorem chainFinds_j24:(Tryz.prog.stopsHeard)=true:=by kernel_rfl
theorem chainFinds_j25:(Tryz.prog.mayEnter)=true:=by kernel_rfl
theorem chainFinds_j26:((Rows.chainFindsRow.lifted == Tryz.prog.liftsFinal))=true:=by kernel_rfl
theorem chainFinds_j27:((Tryz.prog.make == some Rows.chainFindsRow.make))=true:=by kernel_rfl
theorem chainFinds_j28:((Rows.chainFindsRow.kinds == (if Rows.chainFindsRow.domain.isEmpty then [] else Tryz.f3.params.toList.map fun t=>match Tryz.prog.underlying t with|some (.int k)=>some k|_=>none)))=true:=by kernel_rfl
theorem chainFinds_j29:((Rows.chainFindsRow.pinned == Rows.chainFindsRow.pinnedBy))=true:=by kernel_rfl
theorem chainFinds_j30:((Rows.chainFindsRow.veiled == (Tryz.f3.params.toList++Rows.chainFindsSpec.plain.varTypes Tryz.prog++Tryz.f3.resultTypes.toList).any (Tryz.prog.veiledRec ·)))=true:=by kernel_rfl
theorem chainFinds_j31:(Rows.chainFindsRow.veiledFits Tryz.prog Tryz.f3.params.toList (Tryz.f3.params.toList++Rows.chainFindsSpec.plain.varTypes Tryz.prog++Tryz.f3.resultTypes.toList))=true:=by kernel_rfl
theorem chainFinds_facts:joinedFacts Tryz.prog 3 Tryz.f3 Rows.chainFindsSpec Rows.chainFindsRow=true:=by
  unfold joinedFacts
  exact andI (andI (andI (andI (andI (andI (andI (andI (andI (andI (andI (andI (andI (andI (andI (andI (andI (andI (andI (andI (andI (andI (andI (andI (andI (andI (andI (andI (andI (andI (andI chainFinds_j0 chainFinds_j1) chainFinds_j2) chainFinds_j3) chainFinds_j4) chainFinds_j5) chainFinds_j6) chainFinds_j7) chainFinds_j8) chainFinds_j9) chainFinds_j10) chainFinds_j11) chainFinds_j12) chainFinds_j13) chainFinds_j14) chainFinds_j15) chainFinds_j16) chainFinds_j17) chainFinds_j18) chainFinds_j19) chainFinds_j20) chainFinds_j21) chainFinds_j22) chainFinds_j23) chainFinds_j24) chainFinds_j25) chainFinds_j26) chainFinds_j27) chainFinds_j28) chainFinds_j29) chainFinds_j30) chainFinds_j31
theorem chainFinds_holds:Rows.ChainFindsSaid :=
  OpenClaim.holds_of_wide 3 Tryz.f3 rfl rfl rfl rfl rfl rfl rfl ⟨rfl,rfl,rfl,rfl,rfl⟩ rfl rfl rfl rfl rfl (by kernel_rfl) Tryz.func3 chainFinds_facts
    (of_decide_eq_true (by kernel_rfl)) (by unfold Func.isWrapper;first|(rw [if_pos (by decide +kernel)];kernel_rfl)|(rw [if_neg (by decide +kernel)];exact ⟨rfl,rfl⟩))
    (fun os started H enc _=>chainFinds_lifted os started H enc)
theorem chainFinds_plain (f:FuncId) (fn:Func) (hf:Tryz.pinned.checked.prog.funcNamed "respite/respitelaw18.ChainFinds" = some f) (hfn:Tryz.pinned.checked.prog.funcs[f]? = some fn) :
    true=Tryz.pinned.checked.prog.looks []∧∀ (j:Nat) t,fn.params[j]? = some t→Tryz.pinned.checked.prog.wantsStandIn t=false:=by
  obtain rfl:f=3:=Option.some.inj ((show Tryz.prog.funcNamed "respite/respitelaw18.ChainFinds" = some 3 by kernel_rfl).symm.trans hf) |>.symm
  obtain rfl:fn=Tryz.f3:=(Option.some.inj (Tryz.func3.symm.trans hfn)).symm
  refine ⟨by kernel_rfl,fun j t ht=>?_⟩
  have hm:t∈([22,23,3]:List Nat):=by simpa [show Tryz.f3.params.toList=[22,23,3] from rfl] using Array.mem_of_getElem? ht
  have hall:(([22,23,3]:List Nat).all fun u=>!Tryz.prog.wantsStandIn u)=true:=by kernel_rfl
  show Tryz.prog.wantsStandIn t=false
  simpa using List.all_eq_true.1 hall t hm
theorem chainFinds_card:Rows.ChainFindsCardSaid :=
  Claim7.holds_tied_plain_at .later [] _ _ _ _ chainFinds_holds (fun _ h=>by cases h) (by kernel_rfl) (fun _ h=>by cases h) chainFinds_row_tie rfl ⟨rfl,rfl⟩ (by kernel_rfl) rfl chainFinds_plain (by kernel_rfl)
end Go.Proofs.YteefnlbapebamaaGreatDoor
