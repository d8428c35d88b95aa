/-
  The claim ChainReads: the law's contract, for every input from outside, the listed variables read as listed; the row, and the tied card.
-/
import Derived.Test.YteefnlbapebamaaGreatDoorF10
import Derived.Test.YteefnlbapebamaaGreatDoorTie
import Derived.Test.YteefnlbapebamaaGreatDoorCards
import Derived.Lay
import Derived.SevenTiedAt
import Derived.Stop.Joined
set_option linter.unusedVariables false
namespace Go.Proofs.YteefnlbapebamaaGreatDoor
open Go Go.AL Go.ChangeShapes Go.WideShapes Go.ChangeAt Go.RowKit

set_option maxHeartbeats 1600000 in
set_option maxRecDepth 100000 in
theorem chainReads_lifted (os:Os) (started:os.Started) (H:Type) (enc:TypeId × Value→H) :
    ReturnsInHanded {} Tryz.checked os 6 .any (fun w args=>(Rows.chainReadsSpec.pre enc Tryz.prog Tryz.f6 Rows.chainReadsRow.domain false w args∧laidMetH Tryz.prog Rows.chainReadsRow.laid w)∧sizedMet enc Tryz.prog Tryz.f6 (OpenSpec.ofChange Rows.chainReadsSpec) false w args)
      (Rows.chainReadsSpec.post enc Tryz.prog Tryz.f6 false true false false):=by
  refine Go.AL.returnsInHanded_and_shaped (C:=Tryz.checked) (X:=fun w _=>laidMetH Tryz.prog Rows.chainReadsRow.laid w) (fun _ _ _ hh h=>h.of_heap hh) own started (by kernel_rfl) Tryz.func6
    (ChangeSpec.witness_shaped (enc:=enc) (C:=Tryz.checked) (os:=os) (X:=fun w _=>laidMetH Tryz.prog Rows.chainReadsRow.laid w) false (laidW os) #[.slice none 0 0,.slice none 0 0,.int .i64 0] 8 (laidW_os os)
      (World.shaped_of_ZipB (by kernel_rfl) (by kernel_rfl)) (by kernel_rfl) (by kernel_rfl) (by kernel_rfl)
      (laidW_met os _)) ?_
  intro W base args ds gs before hval0 hW hL hS
  obtain ⟨g,hg⟩:=gl_exists hL hS
  have hval:∀ (j:Nat) t v,Tryz.f6.params[j]? = some t→args[j]? = some v→Value.okWide Tryz.prog W .any base t v:=hval0
  have hW':=hW
  obtain ⟨p,q,hA0,hV,_,_,_⟩:=hW
  have hA:DataW.TrodAll enc Tryz.prog W 0 (fun _=>true) true Tryz.f6.params.toList args.toList ds p:=hA0
  rw [show Tryz.f6.params.toList=[23,23,3] from rfl] at hA
  obtain ⟨v0,a0,d0,e0,p0,q0,ha0,rfl,hp0,h0,hA⟩:=trodAll_cons hA
  obtain ⟨v1,a1,d1,e1,p1,q1,ha1,rfl,hp1,h1,hA⟩:=trodAll_cons hA
  obtain ⟨v2,a2,d2,e2,p2,q2,ha2,rfl,hp2,h2,hA⟩:=trodAll_cons hA
  obtain ⟨hn,rfl,hm⟩:=trodAll_nil hA
  obtain rfl:args = #[v0,v1,v2]:=by cases args;simp_all
  obtain ⟨x0,b0,r0⟩:=open_intsR (okWide_slice Tryz.underlying23 (hval 0 23 v0 rfl rfl)) h0
  obtain ⟨x1,b1,r1⟩:=open_ints (okWide_slice Tryz.underlying23 (hval 1 23 v1 rfl rfl)) h1
  obtain ⟨x2,b2,r2⟩:=open_int (okWide_int Tryz.underlying3 (hval 2 3 v2 rfl rfl)) h2
  have hgs:gs=[]:=by
    cases gs with
    | nil=>rfl
    | cons=>cases hV
  subst hgs
  have hc:ACalls Tryz.prog 6 [ivs x0,ivs x1,.v (.int .i64 x2)] (fixes (glx g)) (one (.v (.bool true)) (fixes (glx g))):=chr_law g x0 x1 x2 b0.2
  refine (law_callsF (glx g) hc (W:=W) (args:=#[v0,v1,v2]) hg ⟨_,_,rfl,r0,_,_,rfl,r1,_,_,rfl,r2,rfl⟩).mono fun e W1 ⟨he,hB⟩=>?_
  subst he
  exact ⟨_,rfl,post_law kids full (fun t ht=>of_decide_eq_true (List.all_eq_true.1 (show ([23,23,3]:List Nat).all (fun t=>decide (t < Tryz.prog.types.size))=true by kernel_rfl) t ht)) hW' hB rfl rfl rfl rfl rfl Tryz.underlying4⟩

theorem andI {a b:Bool} (ha:a=true) (hb:b=true):(a&&b)=true:=by rw [ha,hb];rfl
set_option maxRecDepth 100000
theorem chainReads_j0:(Rows.chainReadsRow.wf (OpenSpec.ofChange Rows.chainReadsSpec))=true:=by kernel_rfl
theorem chainReads_j1:(laidOutB Tryz.prog)=true:=by kernel_rfl
theorem chainReads_j2:(mapsRowed Tryz.prog)=true:=by kernel_rfl
theorem chainReads_j3:(Tryz.f6.params.all (Tryz.prog.readableRec ·))=true:=by kernel_rfl
theorem chainReads_j4:(namedTie Tryz.prog Rows.chainReadsRow.named Rows.chainReadsSpec.vars)=true:=by kernel_rfl
theorem chainReads_j5:((Rows.chainReadsRow.stops == []))=true:=by kernel_rfl
theorem chainReads_j6:((Tryz.prog.stops == []))=true:=by kernel_rfl
theorem chainReads_j7:((Rows.chainReadsRow.knobs == []))=true:=by kernel_rfl
theorem chainReads_j8:((Tryz.prog.stopKnobs == []))=true:=by kernel_rfl
theorem chainReads_j9:((Rows.chainReadsRow.inPlace == Tryz.prog.inPlace 6))=true:=by kernel_rfl
theorem chainReads_j10:((Rows.chainReadsRow.unfollowed == Tryz.prog.unfollowed 6))=true:=by kernel_rfl
theorem chainReads_j11:((Rows.chainReadsRow.recurses == Tryz.prog.recurses 6))=true:=by kernel_rfl
theorem chainReads_j12:((Rows.chainReadsRow.named == Tryz.prog.varsNamed 6))=true:=by kernel_rfl
theorem chainReads_j13:((Rows.chainReadsRow.maps == (Tryz.f6.params.toList++Rows.chainReadsSpec.plain.varTypes Tryz.prog).any (Tryz.prog.mapsRec ·)))=true:=by kernel_rfl
theorem chainReads_j14:((Rows.chainReadsRow.ifaces == (Tryz.f6.params.toList++Rows.chainReadsSpec.plain.varTypes Tryz.prog).any (Tryz.prog.ifacesRec ·)))=true:=by kernel_rfl
theorem chainReads_j15:((Rows.chainReadsRow.mapsOut == Tryz.prog.mapsAmong Tryz.f6.resultTypes.toList))=true:=by kernel_rfl
theorem chainReads_j16:((Rows.chainReadsRow.loops == (Tryz.f6.params.toList++Rows.chainReadsSpec.plain.varTypes Tryz.prog).any (Tryz.prog.loopsFrom ·)))=true:=by kernel_rfl
theorem chainReads_j17:((Rows.chainReadsRow.wideKeys == (Tryz.f6.params.toList++Rows.chainReadsSpec.plain.varTypes Tryz.prog++Tryz.f6.resultTypes.toList).any (Tryz.prog.wideKeysFrom ·)))=true:=by kernel_rfl
theorem chainReads_j18:(Rows.chainReadsSpec.vars.all (Tryz.prog.varReadable ·))=true:=by kernel_rfl
theorem chainReads_j19:(Tryz.f6.resultTypes.all (fun t=>Tryz.prog.readableRec t&&decide (t < Tryz.prog.types.size)))=true:=by kernel_rfl
theorem chainReads_j20:((Rows.chainReadsRow.ifacesOut == Tryz.f6.resultTypes.toList.any (Tryz.prog.ifacesRec ·)))=true:=by kernel_rfl
theorem chainReads_j21:((Rows.chainReadsRow.loopsOut == Tryz.f6.resultTypes.toList.any (Tryz.prog.loopsFrom ·)))=true:=by kernel_rfl
theorem chainReads_j22:((Rows.chainReadsRow.plainKeys == Tryz.prog.plainKeys))=true:=by kernel_rfl
theorem chainReads_j23:(Rows.chainReadsRow.shortTexts.isNone)=true:=by kernel_rfl
theorem chainReads_j24:(Tryz.prog.stopsHeard)=true:=by kernel_rfl
theorem chainReads_j25:(Tryz.prog.mayEnter)=true:=by kernel_rfl
theorem chainReads_j26:((Rows.chainReadsRow.lifted == Tryz.prog.liftsFinal))=true:=by kernel_rfl
theorem chainReads_j27:((Tryz.prog.make == some Rows.chainReadsRow.make))=true:=by kernel_rfl
theorem chainReads_j28:((Rows.chainReadsRow.kinds == (if Rows.chainReadsRow.domain.isEmpty then [] else Tryz.f6.params.toList.map fun t=>match Tryz.prog.underlying t with|some (.int k)=>some k|_=>none)))=true:=by kernel_rfl
theorem chainReads_j29:((Rows.chainReadsRow.pinned == Rows.chainReadsRow.pinnedBy))=true:=by kernel_rfl
theorem chainReads_j30:((Rows.chainReadsRow.veiled == (Tryz.f6.params.toList++Rows.chainReadsSpec.plain.varTypes Tryz.prog++Tryz.f6.resultTypes.toList).any (Tryz.prog.veiledRec ·)))=true:=by kernel_rfl
theorem chainReads_j31:(Rows.chainReadsRow.veiledFits Tryz.prog Tryz.f6.params.toList (Tryz.f6.params.toList++Rows.chainReadsSpec.plain.varTypes Tryz.prog++Tryz.f6.resultTypes.toList))=true:=by kernel_rfl
theorem chainReads_facts:joinedFacts Tryz.prog 6 Tryz.f6 Rows.chainReadsSpec Rows.chainReadsRow=true:=by
  unfold joinedFacts
  exact andI (andI (andI (andI (andI (andI (andI (andI (andI (andI (andI (andI (andI (andI (andI (andI (andI (andI (andI (andI (andI (andI (andI (andI (andI (andI (andI (andI (andI (andI (andI chainReads_j0 chainReads_j1) chainReads_j2) chainReads_j3) chainReads_j4) chainReads_j5) chainReads_j6) chainReads_j7) chainReads_j8) chainReads_j9) chainReads_j10) chainReads_j11) chainReads_j12) chainReads_j13) chainReads_j14) chainReads_j15) chainReads_j16) chainReads_j17) chainReads_j18) chainReads_j19) chainReads_j20) chainReads_j21) chainReads_j22) chainReads_j23) chainReads_j24) chainReads_j25) chainReads_j26) chainReads_j27) chainReads_j28) chainReads_j29) chainReads_j30) chainReads_j31
theorem chainReads_holds:Rows.ChainReadsSaid :=
  OpenClaim.holds_of_wide 6 Tryz.f6 rfl rfl rfl rfl rfl rfl rfl ⟨rfl,rfl,rfl,rfl,rfl⟩ rfl rfl rfl rfl rfl (by kernel_rfl) Tryz.func6 chainReads_facts
    (of_decide_eq_true (by kernel_rfl)) (by unfold Func.isWrapper;first|(rw [if_pos (by decide +kernel)];kernel_rfl)|(rw [if_neg (by decide +kernel)];exact ⟨rfl,rfl⟩))
    (fun os started H enc _=>chainReads_lifted os started H enc)
theorem chainReads_plain (f:FuncId) (fn:Func) (hf:Tryz.pinned.checked.prog.funcNamed "respite/respitelaw18.ChainReads" = some f) (hfn:Tryz.pinned.checked.prog.funcs[f]? = some fn) :
    true=Tryz.pinned.checked.prog.looks []∧∀ (j:Nat) t,fn.params[j]? = some t→Tryz.pinned.checked.prog.wantsStandIn t=false:=by
  obtain rfl:f=6:=Option.some.inj ((show Tryz.prog.funcNamed "respite/respitelaw18.ChainReads" = some 6 by kernel_rfl).symm.trans hf) |>.symm
  obtain rfl:fn=Tryz.f6:=(Option.some.inj (Tryz.func6.symm.trans hfn)).symm
  refine ⟨by kernel_rfl,fun j t ht=>?_⟩
  have hm:t∈([23,23,3]:List Nat):=by simpa [show Tryz.f6.params.toList=[23,23,3] from rfl] using Array.mem_of_getElem? ht
  have hall:(([23,23,3]:List Nat).all fun u=>!Tryz.prog.wantsStandIn u)=true:=by kernel_rfl
  show Tryz.prog.wantsStandIn t=false
  simpa using List.all_eq_true.1 hall t hm
theorem chainReads_card:Rows.ChainReadsCardSaid :=
  Claim7.holds_tied_plain_at .later [] _ _ _ _ chainReads_holds (fun _ h=>by cases h) (by kernel_rfl) (fun _ h=>by cases h) chainReads_row_tie rfl ⟨rfl,rfl⟩ (by kernel_rfl) rfl chainReads_plain (by kernel_rfl)
end Go.Proofs.YteefnlbapebamaaGreatDoor
