/-
  Part 10 of the proof texts: the program logic over the model, then the contracts of the functions that the laws reach. No conditions.
-/
import Derived.Test.YteefnlbapebamaaGreatDoorF9
import Derived.Test.YteefnlbapebamaaGreatDoorRows
import Derived.JoinedOf
import Derived.JoinedAt
import Derived.RowKit3
import Derived.LaidMore
import Derived.Lib.LaidTab
import Derived.Stop.LaidErr
import Derived.Lay
import Derived.LaidSub
import Derived.LaidHandle
import Derived.ChangeArms
set_option linter.unusedVariables false
set_option linter.unusedSimpArgs false
set_option maxHeartbeats 2000000
section
set_option maxRecDepth 100000
namespace Go.AL
open Go Go.Proofs
attribute [local irreducible] J
theorem stL_full:∀ (xs ws:List Int) (k:Nat),k+xs.length=ws.length→stL ws k xs=ws.take k++xs
 | [],ws,k,h=>by
  have h:k=ws.length:=by simpa using h
  subst h
  rw [List.take_length,List.append_nil];rfl
 | x::xs,ws,k,h=>by
  have hk:k < ws.length:=by simp at h;omega
  show stL (ws.set k x) (k+1) xs=_
  rw [stL_full xs _ _ (by simp at h ⊢;omega),List.take_succ_eq_append_getElem (by simpa using hk),List.getElem_set_self,List.take_set_of_le (Nat.le_refl _)]
  simp
def layM (l:List Pr):Mem:=⟨0::(if l=[] then 0 else 2)::chW l.length 2 l 0,0::List.replicate (3*l.length+1) 1⟩
theorem lay_marks:∀ n:Nat,n < 13→rngBad (2+3*n) 1 2 (3*n)=false∧(lay1 ⟨List.replicate (2+3*n) 0,List.replicate (2+3*n) 0⟩ 1).2=0∧(lay2 ⟨List.replicate (2+3*n) 0,List.replicate (2+3*n) 0⟩ 1 2 (3*n)).2=0 ∧
  (lay2 ⟨List.replicate (2+3*n) 0,List.replicate (2+3*n) 0⟩ 1 2 (3*n)).1.words=List.replicate (2+3*n) 0∧(lay2 ⟨List.replicate (2+3*n) 0,List.replicate (2+3*n) 0⟩ 1 2 (3*n)).1.tags=0::List.replicate (3*n+1) 1 ∧
  mRight ⟨List.replicate (2+3*n) 0,List.replicate (2+3*n) 0⟩=true:=by decide +kernel
theorem layM_eq {l:List Pr} (hP:prsOk l=true):layP ⟨List.replicate (2+3*l.length) 0,List.replicate (2+3*l.length) 0⟩ 1 2 l=(layM l,0)∧mRight ⟨List.replicate (2+3*l.length) 0,List.replicate (2+3*l.length) 0⟩=true:=by
 have hp12:l.length≤12:=by
  unfold prsOk at hP
  rw [Bool.and_eq_true] at hP
  exact of_decide_eq_true hP.2
 obtain ⟨e1,e2,e3,e4,e5,e6⟩:=lay_marks l.length (by omega)
 refine ⟨?_,e6⟩
 rw [layP_fine (by rw [e6,hP];rfl) (by show rngBad (List.replicate (2+3*l.length) (0:Int)).length 1 2 (3*l.length)=false;rw [List.length_replicate];exact e1) e2 e3]
 generalize (lay2 ⟨List.replicate (2+3*l.length) 0,List.replicate (2+3*l.length) 0⟩ 1 2 (3*l.length)).1=x at *
 obtain ⟨xw,xt⟩:=x
 simp only at e4 e5
 subst e4 e5
 unfold chM layM
 have hW:=chW_len l.length 2 l 0
 show ((⟨(stL (List.replicate (2+3*l.length) 0) 2 (chW l.length 2 l 0)).set 1 (if l=[] then 0 else 2),_⟩:Mem),(0:Int))=_
 rw [stL_full _ _ _ (by rw [hW,List.length_replicate])]
 congr 2
 rw [show List.replicate (2+3*l.length) (0:Int)=0::0::List.replicate (3*l.length) 0 from by rw [show 2+3*l.length=(3*l.length+1)+1 by omega];rfl]
 rfl
theorem layM_right {l:List Pr} (hl:l.length≤12):mRight (layM l)=true:=by
 have hW:=chW_len l.length 2 l 0
 unfold layM
 generalize chW l.length 2 l 0=W at *
 unfold mRight
 simp only [List.length_cons,List.length_replicate]
 rw [decide_eq_true (by omega),decide_eq_true (by omega),decide_eq_true (by omega),List.zip_cons_cons,List.all_cons]
 simp only [Bool.true_and]
 rw [show tagOk 0 0=true by decide,Bool.true_and,List.all_eq_true]
 intro p hp
 have:=List.eq_of_mem_replicate (List.of_mem_zip hp).1
 unfold tagOk
 rw [this];rfl
theorem layM_len (l:List Pr):(layM l).words.length=2+3*l.length∧(layM l).tags.length=2+3*l.length:=by
 unfold layM
 have hW:=chW_len l.length 2 l 0
 simp only [List.length_cons,List.length_replicate]
 omega
def chT0:Bs:=[102,105,110,100,58,10,108,111,97,100,32,114,48,32,114,48,32,48,10,102,105,110,100,49,58,10,122,101,114,111,32,114,48,32,102,111,117,110,100,10,108,111,97,100,32,114,50,32,114,48,32,48,10,115,117,98,32,114,50,32,114,50,32,114,49,10,122,101,114,111,32,114,50,32,102,111,117,110,100,10,108,111,97,100,32,114,48,32,114,48,32,50,10,106,117,109,112,32,102,105,110,100,49,10,102,111,117,110,100,58,10,114,101,116,10,115,101,101,107,58,10,108,111,97,100,32,114,50,32,114,48,32,48,10,122,101,114,111,32,114,50,32,115,111,117,103,104,116,10,108,111,97,100,32,114,51,32,114,50,32,48,10,115,117,98,32,114,51,32,114,51,32,114,49,10,122,101,114,111,32,114,51,32,115,111,117,103,104,116,10,112,108,117,115,32,114,48,32,114,50,32,50,10,106,117,109,112,32,115,101,101,107,10,115,111,117,103,104,116,58,10,114,101,116,10,116,48,58,10]
def sA:Bs:=[115,101,116,32,114,48,32]
def sB:Bs:=[10,115,101,116,32,114,49,32]
def sC:Bs:=[99,97,108,108,32,102,105,110,100,10,109,97,114,107,32,54,10]
def sD:Bs:=[99,97,108,108,32,115,101,101,107,10,109,97,114,107,32,55,10]
def sE:Bs:=[115,101,116,32,114,48,32,49,10,115,101,116,32,114,49,32]
def sH:Bs:=[104,97,108,116,10]
theorem chT0_eq:ltx chC=chT0:=by decide +kernel
theorem sH_eq:ltx kH=sH:=by decide +kernel
theorem itoa_one:Lib.itoa 1=[49]:=by decide +kernel
def setS (k:Int):Bs:=sE++Lib.itoa k++[10]
theorem key_txt (k:Int):ltx (keyLn k)=((setS k++sC)++setS k)++sD:=by
 unfold keyLn
 rw [ltx_app,ltx_cons,ltx_app,ltx_cons]
 rw [show ltx kA=[115,101,116,32,114,48,32,49,10] by decide,show ltx kB=sC++[115,101,116,32,114,48,32,49,10] by decide,show ltx kC=sD by decide]
 unfold setS setK sE
 simp
theorem setS_p (k:Int):((((sA++Lib.itoa 1)++sB)++Lib.itoa k)++[10])=setS k:=by
 rw [itoa_one];rfl
def chS (ks:List Int) (k:Nat):Bs:=chT0++ltx ((ks.take k).flatMap keyLn)
theorem chS_succ (ks:List Int) {k:Nat} (h:k < ks.length):chS ks (k+1)=chS ks k++(((setS (at' ks (k:Int))++sC)++setS (at' ks (k:Int)))++sD):=by
 unfold chS
 rw [List.take_succ_eq_append_getElem h,List.flatMap_append,ltx_app,at_nat ks k h,←key_txt]
 simp
def chTx (ks:List Int):Bs:=ltx (chLn ks)
theorem chS_all (ks:List Int):chS ks ks.length++sH=chTx ks:=by
 unfold chS chTx chLn
 rw [List.take_length,ltx_app,ltx_app,chT0_eq,sH_eq,List.append_assoc]
theorem setS_len {k:Int} (h:bd k):(setS k).length≤30:=by
 have:=itoa_len h
 unfold setS
 rw [List.length_append,List.length_append]
 have:sE.length=16:=by decide
 simp only [List.length_cons,List.length_nil]
 omega
theorem chS_len (ks:List Int) (k:Nat) (h:∀ x∈ks.take k,bd x) (hl:ks.length≤1000):(chS ks k).length≤100000:=by
 unfold chS
 have:=flatL keyLn 90 (ks.take k) fun x hx=>key_len (h x hx)
 have h2:(ks.take k).length≤ks.length:=by rw [List.length_take];omega
 have:chT0.length≤1000:=by decide +kernel
 rw [List.length_append]
 omega
theorem keysOk_bd {ks:List Int} (h:keysOk ks=true):∀ k∈ks,bd k:=fun k hk=>inn_iff.1 (List.all_eq_true.1 h k hk)
def wch0 (l:List Pr) (ks:List Int) (d:Int):Wd × Int :=
 cond (keysOk ks&&prsOk l) (cond (decide (ks.length≤16)) (newW (chCode ks) (rst (chTx ks) [[116,48]]) (layM l) d) (wd0,2)) (wd0,1)
set_option maxHeartbeats 4000000 in
theorem chworld_ok (g:Gl) (l:List Pr) (ks:List Int) (d:Int) (hl:l.length≤1000000) (hk:ks.length≤20):ACalls Tryz.prog 11 [encPs l,ivs ks,iv d] (gls g) (one (.tup [encWd (wch0 l ks d).1,iv (wch0 l ks d).2]) (gls g)):=by
 have hw0:=wstr_ok false [] chT0 (by decide +kernel) (by decide +kernel)
 have hit:=fun k=>itoa_ok g k
 have hi1:=itoa_ok g 1 (by decide) (by decide)
 have hmy:=may_ok l hl
 have hS0:chS ks 0=chT0:=by unfold chS;simp [ltx]
 rw [List.nil_append,←hS0] at hw0
 unfold encPs ivs at *
 unfold bld bldH adr at hw0
 unfold gls at *
 refine jC Tryz.func11 Tryz.ntmps11 (fun w0 β0 ext hβ=>?_)
 repeat (first|refine jadB 5 1 5 1 rfl rfl rfl rfl ?_|refine jS ?_|refine jD ?_|refine jB ?_)
 refine jBb [5,6] hw0 ?_
 repeat (first|refine jS ?_|refine jD ?_|refine jB ?_)
 clear hw0
 refine jfin 7 [0,2,6,8,15,16,17,1] true rfl rfl rfl (jbl hβ) ?_
 refine jloop 7 (fun k:Nat=>k≤ks.length∧((ks.take k).all fun n=>inn n (-1000000000) 1000000000)=true) [0,2,6,8,15,16,17,1] (fun k=>[.sl (l.map encP),iv d,.ptr 4 0,.ptr 5 0,.sl (ks.map iv),.v (.int .i64 ((ks.map iv).length:Int)),.v (.int .i64 (k:Int)),.sl (ks.map iv)])
  (fun k=>[g.a,g.b,g.c,g.d,.box 33 [.sl [],.sl [],.sl [],iv 0,.sl [],.sl [],.sl []],.box 86 [.ptr 5 0,.arr 6 ((chS ks k).length+1)],.arr ((chS ks k).length+1) 5 1 ((chS ks k).map encB)]) (fun k=>ks.length-k) 0 (jbl hβ) ⟨Nat.zero_le _,rfl⟩ rfl rfl (fun k hk=>?_)
 obtain ⟨hk,hok⟩:=hk
 repeat (first|refine jS ?_|refine jD ?_|refine jB ?_)
 refine jc rfl rfl rfl (fun h=>?_) (fun h=>?_)
 ·have h:=of_decide_eq_true h
  rw [List.length_map] at h
  have hk2:k < ks.length:=by omega
  have hidx:IntKind.i64.wrap ((k:Int)+1)=((k+1:Nat):Int):=idx_next hk2 (by omega)
  have hm:=at_mem hk2
  have htk:(ks.take (k+1)).all (fun n=>inn n (-1000000000) 1000000000)=inn (at' ks (k:Int)) (-1000000000) 1000000000:=by
   rw [List.take_succ_eq_append_getElem hk2,List.all_append,hok,at_nat ks k hk2];simp
  have hno:inn (at' ks (k:Int)) (-1000000000) 1000000000=false→wch0 l ks d=(wd0,1):=fun e=>by
   unfold wch0
   rw [show keysOk ks=false from by unfold keysOk;rw [List.all_eq_false];exact ⟨_,hm,by rw [e];decide⟩];rfl
  have hsu:=chS_succ ks hk2
  have hB:=chS_len ks k (fun x hx=>inn_iff.1 (List.all_eq_true.1 hok x hx)) (by omega)
  repeat (first|refine jS ?_|refine jD ?_|refine jB ?_|refine jI (Int.natCast_nonneg k) h ?_)
  generalize at' ks (k:Int)=v at *
  by_cases c1:v < -1000000000
  ·rw [show decide (v < -1000000000)=true from decide_eq_true c1]
   rw [hno (by cases e:inn v (-1000000000) 1000000000 with
    | false=>rfl
    | true=>have:=(inn_iff.1 e).1;omega)]
   unfold encWd wCells ivs
   repeat (first|refine jS ?_|refine jD ?_|refine jB ?_)
   exact jR
  rw [show decide (v < -1000000000)=false from decide_eq_false c1]
  repeat (first|refine jS ?_|refine jD ?_|refine jB ?_)
  by_cases c2:v > 1000000000
  ·rw [show decide (v > 1000000000)=true from decide_eq_true c2]
   rw [hno (by cases e:inn v (-1000000000) 1000000000 with
    | false=>rfl
    | true=>have:=(inn_iff.1 e).2;omega)]
   unfold encWd wCells ivs
   repeat (first|refine jS ?_|refine jD ?_|refine jB ?_)
   exact jR
  rw [show decide (v > 1000000000)=false from decide_eq_false c2]
  have hbd:bd v:=⟨by omega,by omega⟩
  have hok2:(ks.take (k+1)).all (fun n=>inn n (-1000000000) 1000000000)=true:=by rw [htk];exact inn_iff.2 hbd
  clear htk hno
  have hit:=hit v (by omega) (by omega)
  have hil:=itoa_len hbd
  have hsl:=setS_len hbd
  have hsp:=setS_p v
  have hi1l:(Lib.itoa 1).length=1:=by rw [itoa_one];rfl
  have l1:sA.length=7:=by decide
  have l2:sB.length=8:=by decide
  have l3:sC.length=17:=by decide
  have l4:sD.length=17:=by decide
  generalize chS ks k=C at *
  have hw1:=wstr_ok true C (((setS v++sC)++setS v)++sD) (by simp only [List.length_append];omega) (by simp only [List.length_append];omega)
  rw [←hsu] at hw1
  unfold bld bldH adr at hw1
  repeat (first|refine jS ?_|refine jD ?_|refine jB ?_)
  refine jBb [0,1,2,3] hi1 ?_
  refine jo rfl rfl (cat_str (a:=sA) (b:=Lib.itoa 1) rfl rfl (by omega)) rfl rfl ?_
  repeat (first|refine jS ?_|refine jD ?_|refine jB ?_)
  refine jo rfl rfl (cat_str (a:=sA++Lib.itoa 1) (b:=sB) rfl rfl (by simp only [List.length_append];omega)) rfl rfl ?_
  repeat (first|refine jS ?_|refine jD ?_|refine jB ?_)
  refine jBb [0,1,2,3] hit ?_
  refine jo rfl rfl (cat_str (a:=(sA++Lib.itoa 1)++sB) (b:=Lib.itoa v) rfl rfl (by simp only [List.length_append];omega)) rfl rfl ?_
  repeat (first|refine jS ?_|refine jD ?_|refine jB ?_)
  refine jo rfl rfl (cat_str (a:=((sA++Lib.itoa 1)++sB)++Lib.itoa v) (b:=[10]) rfl rfl (by simp only [List.length_append,List.length_cons,List.length_nil];omega)) rfl rfl ?_
  rw [hsp]
  generalize setS v=SS at *
  repeat (first|refine jS ?_|refine jD ?_|refine jB ?_)
  refine jo rfl rfl (cat_str (a:=SS) (b:=sC) rfl rfl (by omega)) rfl rfl ?_
  repeat (first|refine jS ?_|refine jD ?_|refine jB ?_)
  refine jo rfl rfl (cat_str (a:=SS++sC) (b:=SS) rfl rfl (by simp only [List.length_append];omega)) rfl rfl ?_
  repeat (first|refine jS ?_|refine jD ?_|refine jB ?_)
  refine jo rfl rfl (cat_str (a:=(SS++sC)++SS) (b:=sD) rfl rfl (by simp only [List.length_append];omega)) rfl rfl ?_
  repeat (first|refine jS ?_|refine jD ?_|refine jB ?_)
  refine jBb [5,6] hw1 ?_
  repeat (first|refine jS ?_|refine jD ?_|refine jB ?_)
  refine jnext (k+1) ⟨hk2,hok2⟩ (by omega) rfl rfl rfl ?_ rfl
  rw [hidx];rfl
 ·have h:=of_decide_eq_false h
  rw [List.length_map] at h
  have:k=ks.length:=by omega
  subst this
  have hB:=chS_len ks ks.length (fun x hx=>inn_iff.1 (List.all_eq_true.1 hok x hx)) (by omega)
  rw [List.take_length] at hok
  have hkeys:keysOk ks=true:=hok
  have hall:=chS_all ks
  have hw2:=wstr_ok true (chS ks ks.length) sH (by decide) (Nat.le_trans (Nat.add_le_add hB (show sH.length≤10 by decide)) (by decide))
  rw [hall] at hw2
  generalize chS ks ks.length=C at *
  unfold bld bldH adr at hw2
  repeat (first|refine jS ?_|refine jD ?_|refine jB ?_)
  refine jBb [5,6] hw2 ?_
  have hTl:(chTx ks).length≤200000:=by
   rw [←hall]
   exact Nat.le_trans (Nat.le_of_eq (List.length_append ..)) (Nat.le_trans (Nat.add_le_add hB (show sH.length≤10 by decide)) (by decide))
  clear hw2 hall hB
  cases hP:prsOk l with
  | false =>
   have e0:wch0 l ks d=(wd0,1):=by unfold wch0;rw [hP,Bool.and_false];rfl
   rw [e0]
   rw [hP] at hmy
   unfold encWd wCells ivs
   repeat (first|refine jS ?_|refine jD ?_|refine jB ?_|refine jV hmy ?_)
   exact jR
  | true =>
   rw [hP] at hmy
   by_cases c16:ks.length≤16
   ·have e0:wch0 l ks d=newW (chCode ks) (rst (chTx ks) [[116,48]]) (layM l) d:=by unfold wch0;rw [hP,hkeys,decide_eq_true c16];rfl
    rw [e0]
    have hp12:l.length≤12:=by
     unfold prsOk at hP
     rw [Bool.and_eq_true] at hP
     exact of_decide_eq_true hP.2
    obtain ⟨ly1,ly2⟩:=layM_eq hP
    have hmr:=layM_right hp12
    have hml:=layM_len l
    have h3:=mnew_ok (2+3*l.length) (by omega) (by omega)
    have h4:=clay_ok ⟨List.replicate (2+3*l.length) 0,List.replicate (2+3*l.length) 0⟩ 1 2 l (by simp;omega) (by simp;omega) hl
    rw [ly1] at h4
    have hpr:=ch_parse ks (keysOk_bd hkeys) (by omega)
    have hwh:=ch_where ks (keysOk_bd hkeys) (by omega)
    rw [show ltx (chLn ks)=chTx ks from rfl] at hpr hwh
    have hp0:(rparse (chTx ks)).2.2=0:=by rw [hpr]
    obtain ⟨z1,z2⟩:=rst_eq hp0 [[116,48]]
    have hne:chTx ks≠[]:=by
     intro e
     rw [e] at hwh
     exact absurd hwh (by decide +kernel)
    have h5:=snew_ok g (chTx ks) [[116,48]] (layM l) d (by have:=ch_len ks (keysOk_bd hkeys) (by omega);show (ltx (chLn ks)).length≤_;omega) (by decide) (by omega) (by rw [parse_eq];exact hp0) (by intro x hx;simp at hx;subst hx;rw [hwh]) (by rw [parse_eq,hpr];have:=parse_right hp0;unfold rightC at this;rw [hpr,Bool.and_eq_true] at this;have:=of_decide_eq_true this.1;simp only at this ⊢;omega)
    rw [parse_eq,hpr,z1] at h5
    simp only at h5
    have hs:=str_ok true (chTx ks) hne (by omega)
    have hn:IntKind.i64.wrap (2+IntKind.i64.wrap (3*(((l.map encP).length:Nat):Int)))=((2+3*l.length:Nat):Int):=by
     rw [List.length_map,wrap_id (n:=3*(l.length:Int)) (by omega) (by omega),wrap_id (by omega) (by omega)];omega
    clear hwh hpr hp0 z1 z2 ly1 ly2 e0
    generalize newW (chCode ks) (rst (chTx ks) [[116,48]]) (layM l) d=r at *
    generalize layM l=M at *
    generalize chTx ks=T at *
    unfold gls at h5
    unfold encWd wCells encMem mCells ivs at h5
    unfold encMem mCells ivs at h3 h4
    unfold encPs at h4
    unfold encWd wCells ivs
    unfold bld bldH adr at hs
    have h5:=h5.argw (args':=[sv T,.slf [sv [116,48]],.agg [.sl (M.words.map iv),.sl (M.tags.map iv)],iv d]) (fun c us h=>relL_cons (fun u h=>h) (relL_cons (fun u h=>sl_weak h) (fun us h=>h)) us h)
    repeat (first|refine jS ?_|refine jD ?_|refine jB ?_|refine jV hmy ?_)
    rw [show decide ((((ks.map iv).length:Nat):Int) > 16)=false from decide_eq_false (by rw [List.length_map];omega)]
    repeat (first|refine jS ?_|refine jD ?_|refine jB ?_)
    rw [hn]
    repeat (first|refine jS ?_|refine jB ?_|refine jV h3 ?_|refine jV h4 ?_)
    refine jdrawPT [(2,.r),(0,.x),(1,.p),(3,.p),(4,.m),(5,.p),(6,.p),(7,.m),(8,.p)] rfl (by kernel_rfl) ?_
    repeat (first|refine jS ?_|refine jD ?_|refine jB ?_)
    refine jbx [5,6] hs rfl rfl rfl ⟨rfl,rfl,rfl,rfl,rfl,rfl⟩ rfl rfl (by repeat (first|exact trivial|refine ⟨rfl,?_⟩)) rfl rfl ?_
    repeat (first|refine jS ?_|refine jD ?_|refine jB ?_)
    refine jBb [0,1,2,3] h5 ?_
    repeat (first|refine jS ?_|refine jD ?_|refine jB ?_)
    exact jR
   ·have e0:wch0 l ks d=(wd0,2):=by unfold wch0;rw [hP,hkeys,decide_eq_false c16];rfl
    rw [e0]
    unfold encWd wCells ivs
    repeat (first|refine jS ?_|refine jD ?_|refine jB ?_|refine jV hmy ?_)
    rw [show decide ((((ks.map iv).length:Nat):Int) > 16)=true from decide_eq_true (by rw [List.length_map];omega)]
    repeat (first|refine jS ?_|refine jD ?_|refine jB ?_)
    exact jR
end Go.AL
end
section
set_option maxRecDepth 100000
namespace Go.AL
open Go Go.Proofs
attribute [local irreducible] J
def chO (l:List Pr) (ks:List Int) (d:Int):Wd:=newOk (chCode ks) (rst (chTx ks) [[116,48]]) (layM l) d
theorem prs12 {l:List Pr} (hP:prsOk l=true):l.length≤12:=by
 unfold prsOk at hP
 rw [Bool.and_eq_true] at hP
 exact of_decide_eq_true hP.2
theorem ch_p0 {ks:List Int} (hK:keysOk ks=true) (hk:ks.length≤20):rparse (chTx ks)=(chCode ks,0,0):=ch_parse ks (keysOk_bd hK) hk
theorem wch0_good {l:List Pr} {ks:List Int} {d:Int} (hP:prsOk l=true) (hK:keysOk ks=true) (h16:ks.length≤16) (hd:inn d 0 8=true):wch0 l ks d=(chO l ks d,0)∧WdR (chO l ks d):=by
 have hpr:=ch_p0 hK (by omega)
 have hp0:(rparse (chTx ks)).2.2=0:=by rw [hpr]
 have h1:=newW_good hp0 [[116,48]] (layM l) d (layM_right (prs12 hP)) (by decide) hd
 have h2:=newOk_r hp0 [[116,48]] (layM l) d (layM_right (prs12 hP)) (by decide) hd
 rw [hpr] at h1 h2
 exact ⟨by unfold wch0;rw [hP,hK,decide_eq_true h16];exact h1,h2⟩
theorem al_prs:prsOk [(5,0),(7,0)]=true:=by decide +kernel
theorem al_runs:(roundsW (chO [(5,0),(7,0)] [7] 0) 100).1.evs.length=2∧g0 (at' (roundsW (chO [(5,0),(7,0)] [7] 0) 100).1.evs (0:Int)).words 0=5∧g0 (at' (roundsW (chO [(5,0),(7,0)] [7] 0) 100).1.evs (1:Int)).words 0=4:=by decide +kernel
theorem chalive_ok (g:Gl):ACalls Tryz.prog 12 [] (gls g) (one (bv true) (gls g)):=by
 obtain ⟨e1,e2⟩:=wch0_good (l:=[(5,0),(7,0)]) (ks:=[7]) (d:=0) al_prs (by decide) (by decide) (by decide)
 have h1:=chworld_ok g [(5,0),(7,0)] [7] 0 (by decide) (by decide)
 rw [e1] at h1
 have h2:=rounds_ok (chO [(5,0),(7,0)] [7] 0) 100 e2 (by decide) (by decide)
 obtain ⟨r1,r2,r3⟩:=al_runs
 generalize (roundsW (chO [(5,0),(7,0)] [7] 0) 100).2=n at *
 generalize (roundsW (chO [(5,0),(7,0)] [7] 0) 100).1=w at *
 generalize chO [(5,0),(7,0)] [7] 0=w0 at *
 clear e1 e2
 have hl:((((w.evs.map encEvt).length:Nat):Int) == 2)=true:=by rw [List.length_map,r1];rfl
 have h0:(0:Int) < w.evs.length:=by omega
 have h01:(1:Int) < w.evs.length:=by omega
 unfold gls at *
 unfold encWd wCells ivs at *
 have h1:=h1.argw (args':=[.slf [.agg [iv 5,iv 0],.agg [iv 7,iv 0]],.slf [iv 7],iv 0]) (fun c us h=>relL_cons (fun u h=>sl_weak h) (relL_cons (fun u h=>sl_weak h) (fun us h=>h)) us h)
 refine jC Tryz.func12 Tryz.ntmps12 (fun w0 β0 ext hβ=>?_)
 repeat (first|refine jS ?_|refine jD ?_|refine jB ?_)
 refine jBb [0,1,2,3] h1 ?_
 repeat (first|refine jS ?_|refine jD ?_|refine jB ?_|refine jV h2 ?_)
 rw [hl]
 repeat (first|refine jS ?_|refine jD ?_|refine jB ?_|refine jI (Int.le_refl 0) h0 ?_)
 refine jo rfl rfl (index_pp rfl rfl rfl rfl rfl (by decide) (by decide)) rfl rfl ?_
 repeat (first|refine jS ?_|refine jD ?_|refine jB ?_)
 rw [r2]
 have i01:(0:Int)≤1:=by decide
 repeat (first|refine jS ?_|refine jD ?_|refine jB ?_|refine jI i01 h01 ?_)
 refine jo rfl rfl (index_pp rfl rfl rfl rfl rfl (by decide) (by decide)) rfl rfl ?_
 repeat (first|refine jS ?_|refine jD ?_|refine jB ?_)
 rw [r3]
 repeat (first|refine jS ?_|refine jD ?_|refine jB ?_)
 exact jR
end Go.AL
end
section
set_option maxRecDepth 100000
namespace Go.AL
open Go Go.Proofs
attribute [local irreducible] J
def lod (m:Mem) (k:Int):Int × Int:=cond (mRight m) (mLoad m k) (0,1)
theorem use_no (m:Mem) (k:Int) (hw:m.words.length≤1000000) (ht:m.tags.length≤1000000) (hr:mRight m=false):ACalls Tryz.prog 101 [encMem m,iv k] [] (one (iv 1) []):=by
 have h1:=mem_right m hw ht
 rw [hr] at h1
 unfold encMem mCells ivs at *
 refine jC Tryz.func101 Tryz.ntmps101 (fun w0 β0 ext hβ=>?_)
 repeat (first|refine jS ?_|refine jD ?_|refine jB ?_|refine jV h1 ?_)
 exact jR
theorem load_any (m:Mem) (k:Int) (hw:m.words.length≤1000000) (ht:m.tags.length≤1000000):ACalls Tryz.prog 154 [encMem m,iv k] [] (one (.tup [iv (lod m k).1,iv (lod m k).2]) []):=by
 cases hr:mRight m with
 | true =>
  rw [show lod m k=mLoad m k by unfold lod;rw [hr];rfl]
  exact load_ok m k hr
 | false =>
  rw [show lod m k=(0,1) by unfold lod;rw [hr];rfl]
  have h1:=use_no m k hw ht hr
  unfold encMem mCells ivs at *
  refine jC Tryz.func154 Tryz.ntmps154 (fun w0 β0 ext hβ=>?_)
  repeat (first|refine jS ?_|refine jD ?_|refine jB ?_|refine jV h1 ?_)
  exact jR
theorem wload_ok (m:Mem) (k:Int) (hw:m.words.length≤1000000) (ht:m.tags.length≤1000000) :
  ACalls Tryz.prog 100 [.ptr 0 0,iv k] [.box 110 [.sl (m.words.map iv),.sl (m.tags.map iv),iv 0]] (one (iv (lod m k).1) [.box 110 [.sl (m.words.map iv),.sl (m.tags.map iv),iv (lod m k).2]]):=by
 have h1:=load_any m k hw ht
 unfold encMem mCells ivs at *
 generalize lod m k=r at *
 refine jC Tryz.func100 Tryz.ntmps100 (fun w0 β0 ext hβ=>?_)
 repeat (first|refine jS ?_|refine jD ?_|refine jB ?_|refine jV h1 ?_)
 exact jR
theorem wload_bad (m:Mem) (k bad:Int) (hb:bad≠0) :
  ACalls Tryz.prog 100 [.ptr 0 0,iv k] [.box 110 [.sl (m.words.map iv),.sl (m.tags.map iv),iv bad]] (one (iv 0) [.box 110 [.sl (m.words.map iv),.sl (m.tags.map iv),iv bad]]):=by
 have hne:(bad != 0)=true:=by rw [bne_iff_ne];exact hb
 refine jC Tryz.func100 Tryz.ntmps100 (fun w0 β0 ext hβ=>?_)
 repeat (first|refine jS ?_|refine jD ?_|refine jB ?_)
 rw [hne]
 repeat (first|refine jS ?_|refine jD ?_|refine jB ?_)
 exact jR
def toQ (m:Mem) (t0:Int):Nat→Int
 | 0=>t0
 | q+1=>(lod m (IntKind.i64.wrap (toQ m t0 q+2))).1
def ndK (m:Mem) (to:Int):Int:=(lod m to).1
def ndV (m:Mem) (to:Int):Int:=(lod m (IntKind.i64.wrap (to+1))).1
def ndE (m:Mem) (to:Int):Int:=cond (decide ((lod m to).2=0)) (cond (decide ((lod m (IntKind.i64.wrap (to+1))).2=0)) (lod m (IntKind.i64.wrap (to+2))).2 (lod m (IntKind.i64.wrap (to+1))).2) (lod m to).2
def prQ (m:Mem) (t0:Int) (q:Nat):Pr:=(ndK m (toQ m t0 q),ndV m (toQ m t0 q))
def prsQ (m:Mem) (t0:Int) (q:Nat):List Pr:=(List.range q).map (prQ m t0)
theorem prsQ_succ (m:Mem) (t0:Int) (q:Nat):prsQ m t0 (q+1)=prsQ m t0 q++[prQ m t0 q]:=by unfold prsQ;rw [List.range_succ,List.map_append];rfl
theorem prsQ_len (m:Mem) (t0:Int) (q:Nat):(prsQ m t0 q).length=q:=by unfold prsQ;simp
structure RdOk (m:Mem) (t0:Int) (K:Nat):Prop where
 le:K≤12
 go:∀ q,q < K→toQ m t0 q≠0∧(lod m (toQ m t0 q)).2=0∧(lod m (IntKind.i64.wrap (toQ m t0 q+1))).2=0∧(lod m (IntKind.i64.wrap (toQ m t0 q+2))).2=0
 stop:toQ m t0 K=0
theorem callR {P:Program} {F:Fr} {H:List AObj} {j:Nat} {t:TypeId} {cs:List AVal} {f:FuncId} {args0:List AVal} {x:Value} (hc:ACalls P f (.ptr 0 0::args0) [.box t cs] (one (.v x) [.box t cs])) {dst:Option Tmp} {o:Op} {type:TypeId} {pos:String} {after:Array Edge} {guard:Option (Nat × Bool)}
  (h:callO F o=some (f,.ptr j 0::args0)) (hj:H[j]? = some (.box t cs)) (h1:ltL 1 args0=true) (h2:ltL 1 cs=true) (h3:ltL 0 args0=true) (h4:ltL 0 cs=true):DSem P .r ⟨dst,o,type,pos,after,guard⟩ F H (.v x) H:=by
 refine ⟨rfl,fun H' hB=>?_⟩
 have hj':=hB j t cs hj
 have hlt:j < H'.length:=(List.getElem?_eq_some_iff.1 hj').1
 have ht:tau [j] H'.length 0=j:=rfl
 have hbx:rnO (tau [j] H'.length) (.box t cs) = .box t cs:=by simp only [rnO,ltL_rn h4]
 have hf:=hc.from [j] (Hc:=H') (by simp [sigOk,keepOk.nodupB,hlt]) rfl (by simp only [ltL,ltV,List.length_singleton,h1,Bool.and_true];rfl) (by simp only [List.all_cons,List.all_nil,ltO,List.length_singleton,h2];rfl) (fun i k hik=>by
  cases i with
  | zero =>
   simp at hik
   subst hik
   rw [hj']
   simp only [List.getElem?_cons_zero,Option.map_some,hbx]
  | succ i=>simp at hik)
 have hargs:rnL (tau [j] H'.length) (.ptr 0 0::args0) = .ptr j 0::args0:=by simp only [rnL,rnV,ht,ltL_rn h3]
 rw [hargs] at hf
 refine callO_sem h (hf.mono ?_)
 rintro r G ⟨r0,Ho,⟨rfl,rfl⟩,_,rfl,rfl⟩
 refine ⟨rfl,?_⟩
 show (H'.set j (rnO _ (.box t cs)))++List.map (rnO _) []=H'
 rw [hbx,List.map_nil,List.append_nil]
 apply List.ext_getElem?
 intro i
 rw [List.getElem?_set]
 split
 ·rename_i e;subst e;rw [hj']
 ·rfl
def rdH (m:Mem) (a t0:Int) (l:Nat) (c:LoopS) (k:Nat):List AObj :=
 [.box 26 [.sl (m.words.map iv),.sl (m.tags.map iv)],.box 110 [.sl (m.words.map iv),.sl (m.tags.map iv),iv 0],.box 22 [.arr 5 (k+1)],.box 108 [.ptr 1 0],.box 3 [iv a],
  .arr (k+1) 46 2 ((prsQ m t0 k).map encP),.loop l .ready none c [.ptr 1 0,.ptr 2 0]]
theorem nodes1_ok (l:Nat) (c:LoopS) (m:Mem) (a:Int) (K:Nat) (hw:m.words.length≤1000000) (ht:m.tags.length≤1000000) (h0:(lod m a).2=0) (hK:RdOk m (lod m a).1 K)
  (hY:∀ k,k < K→AYield Tryz.prog l [.agg [iv (prQ m (lod m a).1 k).1,iv (prQ m (lod m a).1 k).2]] (rdH m a (lod m a).1 l c k++[.box 46 [iv (prQ m (lod m a).1 k).1,iv (prQ m (lod m a).1 k).2]]) (one (bv true) (rdH m a (lod m a).1 l c (k+1)++[.box 46 [iv (prQ m (lod m a).1 k).1,iv (prQ m (lod m a).1 k).2]]))) :
  ACalls Tryz.prog 99 [.fn (.yield l) [] [],.ptr 3 0,.ptr 4 0] (rdH m a (lod m a).1 l c 0) (one (.tup []) (rdH m a (lod m a).1 l c K)):=by
 have hl0:=wload_ok m a hw ht
 rw [h0] at hl0
 generalize hT:(lod m a).1=t0 at *
 unfold rdH at *
 refine jC Tryz.func99 Tryz.ntmps99 (fun w0 β0 ext hβ=>?_)
 repeat (first|refine jS ?_|refine jD ?_|refine jB ?_)
 refine jBb [1] hl0 ?_
 repeat (first|refine jS ?_|refine jD ?_|refine jB ?_)
 refine jloop 7 (fun q:Nat=>q≤K) [0,1,2,4,5] (fun q=>[.fn (.yield l) [] [],.ptr 3 0,.ptr 4 0,iv (q:Int),iv (toQ m t0 q)])
  (fun k=>[.box 26 [.sl (m.words.map iv),.sl (m.tags.map iv)],.box 110 [.sl (m.words.map iv),.sl (m.tags.map iv),iv 0],.box 22 [.arr 5 (k+1)],.box 108 [.ptr 1 0],.box 3 [iv a],
  .arr (k+1) 46 2 ((prsQ m t0 k).map encP),.loop l .ready none c [.ptr 1 0,.ptr 2 0]]) (fun q=>K-q) 0 (jbl hβ) (Nat.zero_le _) rfl rfl (fun q hq=>?_)
 by_cases hqK:q=K
 ·subst hqK
  repeat (first|refine jS ?_|refine jD ?_|refine jB ?_)
  rw [show (toQ m t0 q != 0)=false from by rw [hK.stop];rfl]
  repeat (first|refine jS ?_|refine jD ?_|refine jB ?_)
  exact jend [] true rfl rfl rfl ⟨rfl,rfl⟩
 ·obtain ⟨n1,n2,n3,n4⟩:=hK.go q (by omega)
  have hle:=hK.le
  have hne:(toQ m t0 q != 0)=true:=by rw [bne_iff_ne];exact n1
  have hw1:IntKind.i64.wrap ((q:Int)+1)=((q+1:Nat):Int):=by rw [wrap_id (by omega) (by omega)];rfl
  have hla:=wload_ok m (toQ m t0 q) hw ht
  have hlb:=wload_ok m (IntKind.i64.wrap (toQ m t0 q+1)) hw ht
  have hlc:=wload_ok m (IntKind.i64.wrap (toQ m t0 q+2)) hw ht
  rw [n2] at hla
  rw [n3] at hlb
  rw [n4] at hlc
  have hy:=hY q (by omega)
  have hnx:toQ m t0 (q+1)=(lod m (IntKind.i64.wrap (toQ m t0 q+2))).1:=rfl
  rw [←hnx] at hlc
  have hk1:(lod m (toQ m t0 q)).1=(prQ m t0 q).1:=rfl
  have hk2:(lod m (IntKind.i64.wrap (toQ m t0 q+1))).1=(prQ m t0 q).2:=rfl
  rw [hk1] at hla
  rw [hk2] at hlb
  generalize prQ m t0 q=pr at *
  generalize htn:toQ m t0 (q+1)=tn at *
  repeat (first|refine jS ?_|refine jD ?_|refine jB ?_)
  rw [hne]
  repeat (first|refine jS ?_|refine jD ?_|refine jB ?_)
  rw [hw1]
  rw [show decide (((q+1:Nat):Int) > 12)=false from decide_eq_false (by omega)]
  repeat (first|refine jS ?_|refine jB ?_)
  refine jdrawPT [(0,.r),(1,.p),(2,.r),(3,.r),(4,.p),(5,.p),(6,.r),(7,.p),(8,.x),(9,.m)] rfl (by kernel_rfl) ?_
  repeat (first|refine jS ?_|refine jD ?_|refine jB ?_)
  refine jo rfl rfl (callR (j:=1) hla rfl rfl rfl rfl rfl rfl) rfl rfl ?_
  repeat (first|refine jS ?_|refine jD ?_|refine jB ?_)
  refine jo rfl rfl (callR (j:=1) hlb rfl rfl rfl rfl rfl rfl) rfl rfl ?_
  repeat (first|refine jS ?_|refine jD ?_|refine jB ?_)
  refine jBb [1] hlc ?_
  repeat (first|refine jS ?_|refine jD ?_|refine jB ?_)
  refine jy hy rfl rfl rfl rfl (fun r' H' hres=>?_)
  obtain ⟨rfl,rfl⟩:=hres
  refine ⟨_,rfl,?_⟩
  repeat (first|refine jS ?_|refine jD ?_|refine jB ?_)
  refine jnext (q+1) (by omega) (by omega) rfl rfl rfl ?_ rfl
  rw [htn];rfl
theorem nodes_ok (X Y:List AVal) (a:Int):ACalls Tryz.prog 54 [.ptr 0 0,iv a] [.box 110 [.sl X,.sl Y,iv 0]] (one (.fn (.func 99) [] [.ptr 1 0,.ptr 2 0]) [.box 110 [.sl X,.sl Y,iv 0],.box 108 [.ptr 0 0],.box 3 [iv a]]):=by
 refine jC Tryz.func54 Tryz.ntmps54 (fun w0 β0 ext hβ=>?_)
 repeat (first|refine jS ?_|refine jD ?_|refine jB ?_)
 exact jret [1,2] true rfl rfl rfl ⟨rfl,rfl⟩
theorem cread_ok (m:Mem) (a:Int) (K:Nat) (hw:m.words.length≤1000000) (ht:m.tags.length≤1000000) (h0:(lod m a).2=0) (hK:RdOk m (lod m a).1 K) :
  ACalls Tryz.prog 20 [encMem m,iv a] [] (one (.tup [encPs (prsQ m (lod m a).1 K),iv 0]) []):=by
 have hn:=nodes_ok (m.words.map iv) (m.tags.map iv) a
 have hit:=fun l c=>nodes1_ok l c m a K hw ht h0 hK
 generalize (lod m a).1=t0 at *
 have hle:=hK.le
 unfold encMem mCells ivs encPs
 refine jC Tryz.func20 Tryz.ntmps20 (fun w0 β0 ext hβ=>?_)
 repeat (first|refine jS ?_|refine jD ?_|refine jB ?_)
 refine jBb [1] hn ?_
 repeat (first|refine jS ?_|refine jD ?_|refine jB ?_)
 refine jadB 2 0 46 2 rfl rfl rfl rfl ?_
 refine jrange [6,7] rfl rfl rfl (fun l c c1 c2 c3 c4 c5=>?_)
 have hc:=hit l c (fun k hk=>?_)
 ·unfold rdH at hc
  refine ⟨_,hc,fun r H' hres=>?_⟩
  obtain ⟨rfl,rfl⟩:=hres
  refine ⟨_,.ready,none,_,.normal,rfl,rfl,by decide,rfl,?_⟩
  repeat (first|refine jS ?_|refine jD ?_|refine jB ?_)
  exact jr rfl (fin_arr rfl rfl rfl rfl) rfl rfl
 ·unfold rdH
  refine jround (ts:=[6,7]) c1 c2 c3 c4 c5 (j:=6) rfl rfl rfl (fun w1 β1 ext1 hβ1=>?_)
  have hpl:=prsQ_len m t0 k
  have hsu:=prsQ_succ m t0 k
  rw [hsu]
  generalize prQ m t0 k=pr at *
  obtain ⟨pk,pv⟩:=pr
  generalize prsQ m t0 k=L at *
  repeat (first|refine jS ?_|refine jD ?_|refine jB ?_)
  refine jlp ⟨rfl,?_⟩
  repeat (first|refine jS ?_|refine jD ?_|refine jB ?_)
  refine jo rfl rfl (append_enc (enc:=encP) (l:=L) (pk,pv) rfl rfl rfl rfl rfl rfl rfl rfl rfl rfl (fun x=>⟨rfl,rfl⟩) rfl (by omega) rfl rfl) rfl rfl ?_
  repeat (first|refine jS ?_|refine jD ?_|refine jB ?_)
  exact jrend none rfl rfl rfl rfl ⟨rfl,rfl⟩
end Go.AL
end
section
set_option maxRecDepth 100000
namespace Go.AL
open Go Go.Proofs
attribute [local irreducible] J
theorem g0_q (l:List Int) (q:Nat):g0 l q=(l[q]?).getD 0:=by unfold g0;exact List.getD_eq_getElem?_getD ..
theorem lmem_ok (ws ts:List Int):ACalls Tryz.prog 19 [ivs ws,ivs ts] [] (one (encMem ⟨ws.take 170,ts.take 170⟩) []):=by
 have m1:∀ l:List Int,(if (170:Int) < (((l.map iv).length:Nat):Int) then (170:Int) else (((l.map iv).length:Nat):Int))=((min l.length 170:Nat):Int):=fun l=>by rw [List.length_map];split<;>omega
 have m2:=m1 ts
 have m1:=m1 ws
 unfold encMem mCells ivs
 refine jC Tryz.func19 Tryz.ntmps19 (fun w0 β0 ext hβ=>?_)
 repeat (first|refine jS ?_|refine jD ?_|refine jB ?_)
 refine jo rfl rfl (cut_take 170 rfl rfl rfl m1 rfl rfl rfl (fun _=>⟨rfl,rfl⟩)) rfl rfl ?_
 repeat (first|refine jS ?_|refine jD ?_|refine jB ?_)
 refine jo rfl rfl (cut_take 170 rfl rfl rfl m2 rfl rfl rfl (fun _=>⟨rfl,rfl⟩)) rfl rfl ?_
 repeat (first|refine jS ?_|refine jD ?_|refine jB ?_)
 exact jR
end Go.AL
end
section
set_option maxRecDepth 100000
namespace Go.AL
open Go Go.Proofs
def oneW (code:List Ins) (m:Mem) (d:Int) (t:Thr) (e:List Evt):Wd:=⟨code,⟨m,d,[[]]⟩,[t],e⟩
def Rch (code:List Ins) (m:Mem) (d:Int) (n:Nat) (t:Thr) (e:List Evt) (t':Thr) (e':List Evt):Prop:=WdR (oneW code m d t e)→WdR (oneW code m d t' e')∧∀ q,(roundsW (oneW code m d t e) (n+q)).1=(roundsW (oneW code m d t' e') q).1
section
variable {code:List Ins} {m:Mem} {d:Int} {t t' t'':Thr} {e e' e'':List Evt} {n n':Nat}
theorem Rch.trans (h1:Rch code m d n t e t' e') (h2:Rch code m d n' t' e' t'' e''):Rch code m d (n+n') t e t'' e'':=fun h=>by
 obtain ⟨a,b⟩:=h1 h
 obtain ⟨c,f⟩:=h2 a
 exact ⟨c,fun q=>by rw [Nat.add_assoc,b,f]⟩
theorem Rch.step (hd:WdR (oneW code m d t e)→canW (oneW code m d t e) 0=true∧doW (oneW code m d t e) 0=oneW code m d t' e'):Rch code m d 1 t e t' e':=fun h=>by
 obtain ⟨hc,hd⟩:=hd h
 have h1:=(doW_right h (k:=0) (by decide:0 < 1) hc).1
 rw [hd] at h1
 refine ⟨h1,fun q=>?_⟩
 rw [Nat.add_comm]
 have hi:idleW (oneW code m d t e)=false:=by
  cases hi:idleW (oneW code m d t e) with
  | false=>rfl
  | true =>
   have:=idle_iff.1 hi 0 (by decide:0 < 1)
   rw [hc] at this;cases this
 have hr:roundW (oneW code m d t e)=oneW code m d t' e':=by
  show (actW (actW (oneW code m d t e) ⟨0,((0:Nat):Int)⟩).1 ⟨1,((0:Nat):Int)⟩).1=_
  rw [act0_eq h (by decide:0 < 1),hc,hd]
  show (actW (oneW code m d t' e') ⟨1,((0:Nat):Int)⟩).1=_
  rw [act1_eq h1 (by decide:0 < 1)]
  rfl
 show (roundsW (oneW code m d t e) (q+1)).1=_
 unfold roundsW
 rw [hi,hr]
 cases q<;>rfl
section
variable {p:Nat} {a b c f:Int} {fs:List Frm} {i:Ins}
end
end
end Go.AL
end
section
set_option maxRecDepth 100000
namespace Go.AL
open Go Go.Proofs
def i64r (z:Int):Prop:=-9223372036854775808≤z∧z≤9223372036854775807
section
variable {ks:List Int} {l:List Pr} {d:Int} {e:List Evt} {fs:List Frm} {k:Int}
end
end Go.AL
end
section
set_option maxRecDepth 100000
namespace Go.AL
open Go Go.Proofs
attribute [local irreducible] J
def ldA (m:Mem) (k b:Int):Int × Int:=cond (decide (b=0)) (lod m k) (0,b)
theorem wload_any (m:Mem) (k b:Int) (hw:m.words.length≤1000000) (ht:m.tags.length≤1000000) :
  ACalls Tryz.prog 100 [.ptr 0 0,iv k] [.box 110 [.sl (m.words.map iv),.sl (m.tags.map iv),iv b]] (one (iv (ldA m k b).1) [.box 110 [.sl (m.words.map iv),.sl (m.tags.map iv),iv (ldA m k b).2]]):=by
 by_cases h:b=0
 ·subst h
  exact wload_ok m k hw ht
 ·rw [show ldA m k b=(0,b) from by unfold ldA;rw [decide_eq_false h];rfl]
  exact wload_bad m k b h
theorem nd_ld (m:Mem) (to:Int):(ldA m (IntKind.i64.wrap (to+2)) (ldA m (IntKind.i64.wrap (to+1)) (ldA m to 0).2).2).2=ndE m to:=by
 have h0:ldA m to 0=lod m to:=rfl
 rw [h0]
 unfold ndE ldA
 by_cases h1:(lod m to).2=0
 ·rw [decide_eq_true h1]
  simp only [cond_true]
  by_cases h2:(lod m (IntKind.i64.wrap (to+1))).2=0
  ·rw [decide_eq_true h2];rfl
  ·rw [decide_eq_false h2];rfl
 ·rw [decide_eq_false h1]
  simp only [cond_false]
  rw [decide_eq_false h1];rfl
structure RdAny (m:Mem) (t0:Int) (K:Nat) (e:Int):Prop where
 le:K≤12
 go:∀ q,q < K→toQ m t0 q≠0∧(lod m (toQ m t0 q)).2=0∧(lod m (IntKind.i64.wrap (toQ m t0 q+1))).2=0∧(lod m (IntKind.i64.wrap (toQ m t0 q+2))).2=0
 fin:(toQ m t0 K=0∧e=0)∨(toQ m t0 K≠0∧K=12∧e=9)∨(toQ m t0 K≠0∧K < 12∧ndE m (toQ m t0 K)=e∧e≠0)
theorem nd_ne {m:Mem} {to:Int} (h:¬((lod m to).2=0∧(lod m (IntKind.i64.wrap (to+1))).2=0∧(lod m (IntKind.i64.wrap (to+2))).2=0)):ndE m to≠0:=by
 unfold ndE
 by_cases h1:(lod m to).2=0
 ·rw [decide_eq_true h1]
  simp only [cond_true]
  by_cases h2:(lod m (IntKind.i64.wrap (to+1))).2=0
  ·rw [decide_eq_true h2]
   simp only [cond_true]
   exact fun h3=>h ⟨h1,h2,h3⟩
  ·rw [decide_eq_false h2];exact h2
 ·rw [decide_eq_false h1];exact h1
theorem rd_any (m:Mem) (t0:Int):∃ K e,RdAny m t0 K e:=by
 have step:∀ n,n≤12→(∃ K e,RdAny m t0 K e)∨∀ q,q < n→toQ m t0 q≠0∧(lod m (toQ m t0 q)).2=0∧(lod m (IntKind.i64.wrap (toQ m t0 q+1))).2=0∧(lod m (IntKind.i64.wrap (toQ m t0 q+2))).2=0:=by
  intro n
  induction n with
  | zero=>exact fun _=>.inr fun q hq=>absurd hq (by omega)
  | succ n ih =>
   intro hn
   rcases ih (by omega) with h|h
   ·exact .inl h
   ·by_cases h0:toQ m t0 n=0
    ·exact .inl ⟨n,0,by omega,h,.inl ⟨h0,rfl⟩⟩
    ·by_cases h3:(lod m (toQ m t0 n)).2=0∧(lod m (IntKind.i64.wrap (toQ m t0 n+1))).2=0∧(lod m (IntKind.i64.wrap (toQ m t0 n+2))).2=0
     ·refine .inr fun q hq=>?_
      by_cases e:q=n
      ·subst e;exact ⟨h0,h3⟩
      ·exact h q (by omega)
     ·exact .inl ⟨n,_,by omega,h,.inr (.inr ⟨h0,by omega,rfl,nd_ne h3⟩)⟩
 rcases step 12 (Nat.le_refl _) with h|h
 ·exact h
 ·by_cases h0:toQ m t0 12=0
  ·exact ⟨12,0,Nat.le_refl _,h,.inl ⟨h0,rfl⟩⟩
  ·exact ⟨12,9,Nat.le_refl _,h,.inr (.inl ⟨h0,rfl,rfl⟩)⟩
def rdB (m:Mem) (a t0:Int) (l:Nat) (c:LoopS) (k:Nat) (e:Int):List AObj :=
 [.box 26 [.sl (m.words.map iv),.sl (m.tags.map iv)],.box 110 [.sl (m.words.map iv),.sl (m.tags.map iv),iv e],.box 22 [.arr 5 (k+1)],.box 108 [.ptr 1 0],.box 3 [iv a],
  .arr (k+1) 46 2 ((prsQ m t0 k).map encP),.loop l .ready none c [.ptr 1 0,.ptr 2 0]]
theorem nodes1_bad (l:Nat) (c:LoopS) (m:Mem) (a:Int) (K:Nat) (e:Int) (he:e≠0) (hw:m.words.length≤1000000) (ht:m.tags.length≤1000000) (h0:(lod m a).2=0) (hK:RdAny m (lod m a).1 K e)
  (hY:∀ k,k < K→AYield Tryz.prog l [.agg [iv (prQ m (lod m a).1 k).1,iv (prQ m (lod m a).1 k).2]] (rdH m a (lod m a).1 l c k++[.box 46 [iv (prQ m (lod m a).1 k).1,iv (prQ m (lod m a).1 k).2]]) (one (bv true) (rdH m a (lod m a).1 l c (k+1)++[.box 46 [iv (prQ m (lod m a).1 k).1,iv (prQ m (lod m a).1 k).2]]))) :
  ACalls Tryz.prog 99 [.fn (.yield l) [] [],.ptr 3 0,.ptr 4 0] (rdH m a (lod m a).1 l c 0) (one (.tup []) (rdB m a (lod m a).1 l c K e)):=by
 have hl0:=wload_ok m a hw ht
 rw [h0] at hl0
 generalize hT:(lod m a).1=t0 at *
 unfold rdB
 unfold rdH at *
 refine jC Tryz.func99 Tryz.ntmps99 (fun w0 β0 ext hβ=>?_)
 repeat (first|refine jS ?_|refine jD ?_|refine jB ?_)
 refine jBb [1] hl0 ?_
 repeat (first|refine jS ?_|refine jD ?_|refine jB ?_)
 refine jloop 7 (fun q:Nat=>q≤K) [0,1,2,4,5] (fun q=>[.fn (.yield l) [] [],.ptr 3 0,.ptr 4 0,iv (q:Int),iv (toQ m t0 q)])
  (fun k=>[.box 26 [.sl (m.words.map iv),.sl (m.tags.map iv)],.box 110 [.sl (m.words.map iv),.sl (m.tags.map iv),iv 0],.box 22 [.arr 5 (k+1)],.box 108 [.ptr 1 0],.box 3 [iv a],
  .arr (k+1) 46 2 ((prsQ m t0 k).map encP),.loop l .ready none c [.ptr 1 0,.ptr 2 0]]) (fun q=>K-q) 0 (jbl hβ) (Nat.zero_le _) rfl rfl (fun q hq=>?_)
 have hle:=hK.le
 have hw1:IntKind.i64.wrap ((q:Int)+1)=((q+1:Nat):Int):=by rw [wrap_id (by omega) (by omega)];rfl
 by_cases hqK:q=K
 ·subst hqK
  rcases hK.fin with ⟨_,f⟩|⟨n1,f2,rfl⟩|⟨n1,f2,f3,f4⟩
  ·exact absurd f he
  ·have hne:(toQ m t0 q != 0)=true:=by rw [bne_iff_ne];exact n1
   repeat (first|refine jS ?_|refine jD ?_|refine jB ?_)
   rw [hne]
   repeat (first|refine jS ?_|refine jD ?_|refine jB ?_)
   rw [hw1]
   rw [show decide (((q+1:Nat):Int) > 12)=true from decide_eq_true (by omega)]
   repeat (first|refine jS ?_|refine jD ?_|refine jB ?_)
   exact jR
  ·have hne:(toQ m t0 q != 0)=true:=by rw [bne_iff_ne];exact n1
   have hfe:=nd_ld m (toQ m t0 q)
   rw [f3] at hfe
   have hla:=wload_any m (toQ m t0 q) 0 hw ht
   generalize ldA m (toQ m t0 q) 0=r1 at *
   obtain ⟨v1,b1⟩:=r1
   have hlb:=wload_any m (IntKind.i64.wrap (toQ m t0 q+1)) b1 hw ht
   simp only at hfe
   generalize ldA m (IntKind.i64.wrap (toQ m t0 q+1)) b1=r2 at *
   obtain ⟨v2,b2⟩:=r2
   have hlc:=wload_any m (IntKind.i64.wrap (toQ m t0 q+2)) b2 hw ht
   simp only at hfe
   generalize ldA m (IntKind.i64.wrap (toQ m t0 q+2)) b2=r3 at *
   obtain ⟨v3,b3⟩:=r3
   simp only at hfe hla hlb hlc
   subst hfe
   have hen:(b3 != 0)=true:=by rw [bne_iff_ne];exact he
   repeat (first|refine jS ?_|refine jD ?_|refine jB ?_)
   rw [hne]
   repeat (first|refine jS ?_|refine jD ?_|refine jB ?_)
   rw [hw1]
   rw [show decide (((q+1:Nat):Int) > 12)=false from decide_eq_false (by omega)]
   repeat (first|refine jS ?_|refine jB ?_)
   refine jdrawPT [(0,.r),(1,.p),(3,.y 1 2),(4,.p),(5,.p),(2,.w 1 2),(6,.w 1 2),(7,.p),(8,.a),(9,.m)] rfl (by kernel_rfl) ?_
   repeat (first|refine jS ?_|refine jo rfl rfl (load_y (n:=1) (m:=2) rfl rfl rfl rfl) rfl rfl ?_)
   refine jo rfl rfl (callW (j:=1) hla rfl rfl rfl rfl rfl rfl rfl rfl) rfl rfl ?_
   repeat (first|refine jS ?_|refine jo rfl rfl (load_y (n:=1) (m:=2) rfl rfl rfl rfl) rfl rfl ?_)
   refine jo rfl rfl (callW (j:=1) hlb rfl rfl rfl rfl rfl rfl rfl rfl) rfl rfl ?_
   repeat (first|refine jS ?_|refine jo rfl rfl (alloc_a rfl rfl rfl rfl) rfl rfl ?_)
   refine jBb [1] hlc ?_
   repeat (first|refine jS ?_|refine jD ?_|refine jB ?_)
   rw [hen]
   repeat (first|refine jS ?_|refine jD ?_|refine jB ?_)
   exact jR
 ·obtain ⟨n1,n2,n3,n4⟩:=hK.go q (by omega)
  have hne:(toQ m t0 q != 0)=true:=by rw [bne_iff_ne];exact n1
  have hla:=wload_ok m (toQ m t0 q) hw ht
  have hlb:=wload_ok m (IntKind.i64.wrap (toQ m t0 q+1)) hw ht
  have hlc:=wload_ok m (IntKind.i64.wrap (toQ m t0 q+2)) hw ht
  rw [n2] at hla
  rw [n3] at hlb
  rw [n4] at hlc
  have hy:=hY q (by omega)
  have hnx:toQ m t0 (q+1)=(lod m (IntKind.i64.wrap (toQ m t0 q+2))).1:=rfl
  rw [←hnx] at hlc
  have hk1:(lod m (toQ m t0 q)).1=(prQ m t0 q).1:=rfl
  have hk2:(lod m (IntKind.i64.wrap (toQ m t0 q+1))).1=(prQ m t0 q).2:=rfl
  rw [hk1] at hla
  rw [hk2] at hlb
  generalize prQ m t0 q=pr at *
  generalize htn:toQ m t0 (q+1)=tn at *
  repeat (first|refine jS ?_|refine jD ?_|refine jB ?_)
  rw [hne]
  repeat (first|refine jS ?_|refine jD ?_|refine jB ?_)
  rw [hw1]
  rw [show decide (((q+1:Nat):Int) > 12)=false from decide_eq_false (by omega)]
  repeat (first|refine jS ?_|refine jB ?_)
  refine jdrawPT [(0,.r),(1,.p),(2,.r),(3,.r),(4,.p),(5,.p),(6,.r),(7,.p),(8,.x),(9,.m)] rfl (by kernel_rfl) ?_
  repeat (first|refine jS ?_|refine jD ?_|refine jB ?_)
  refine jo rfl rfl (callR (j:=1) hla rfl rfl rfl rfl rfl rfl) rfl rfl ?_
  repeat (first|refine jS ?_|refine jD ?_|refine jB ?_)
  refine jo rfl rfl (callR (j:=1) hlb rfl rfl rfl rfl rfl rfl) rfl rfl ?_
  repeat (first|refine jS ?_|refine jD ?_|refine jB ?_)
  refine jBb [1] hlc ?_
  repeat (first|refine jS ?_|refine jD ?_|refine jB ?_)
  refine jy hy rfl rfl rfl rfl (fun r' H' hres=>?_)
  obtain ⟨rfl,rfl⟩:=hres
  refine ⟨_,rfl,?_⟩
  repeat (first|refine jS ?_|refine jD ?_|refine jB ?_)
  refine jnext (q+1) (by omega) (by omega) rfl rfl rfl ?_ rfl
  rw [htn];rfl
theorem nodes1_first (l:Nat) (c:LoopS) (m:Mem) (a e:Int) (hw:m.words.length≤1000000) (ht:m.tags.length≤1000000) (h0:lod m a=(0,e)) :
  ACalls Tryz.prog 99 [.fn (.yield l) [] [],.ptr 3 0,.ptr 4 0] (rdB m a 0 l c 0 0) (one (.tup []) (rdB m a 0 l c 0 e)):=by
 have hl0:=wload_ok m a hw ht
 rw [h0] at hl0
 unfold rdB
 refine jC Tryz.func99 Tryz.ntmps99 (fun w0 β0 ext hβ=>?_)
 repeat (first|refine jS ?_|refine jD ?_|refine jB ?_)
 refine jBb [1] hl0 ?_
 repeat (first|refine jS ?_|refine jD ?_|refine jB ?_)
 refine jloop 7 (fun q:Nat=>q=0) [0,1,2,4,5] (fun q=>[.fn (.yield l) [] [],.ptr 3 0,.ptr 4 0,iv 0,iv 0])
  (fun k=>_) (fun q=>0) 0 (jbl hβ) rfl rfl rfl (fun q hq=>?_)
 repeat (first|refine jS ?_|refine jD ?_|refine jB ?_)
 exact jend [] true rfl rfl rfl ⟨rfl,rfl⟩
theorem cread_first (m:Mem) (a e:Int) (he:e≠0) (hw:m.words.length≤1000000) (ht:m.tags.length≤1000000) (h0:lod m a=(0,e)) :
  ACalls Tryz.prog 20 [encMem m,iv a] [] (one (.tup [encPs [],iv e]) []):=by
 have hn:=nodes_ok (m.words.map iv) (m.tags.map iv) a
 have hit:=fun l c=>nodes1_first l c m a e hw ht h0
 have hen:(e != 0)=true:=by rw [bne_iff_ne];exact he
 unfold encMem mCells ivs encPs
 refine jC Tryz.func20 Tryz.ntmps20 (fun w0 β0 ext hβ=>?_)
 repeat (first|refine jS ?_|refine jD ?_|refine jB ?_)
 refine jBb [1] hn ?_
 repeat (first|refine jS ?_|refine jD ?_|refine jB ?_)
 refine jadB 2 0 46 2 rfl rfl rfl rfl ?_
 refine jrange [6,7] rfl rfl rfl (fun l c c1 c2 c3 c4 c5=>?_)
 have hc:=hit l c
 unfold rdB at hc
 refine ⟨_,hc,fun r H' hres=>?_⟩
 obtain ⟨rfl,rfl⟩:=hres
 refine ⟨_,.ready,none,_,.normal,rfl,rfl,by decide,rfl,?_⟩
 repeat (first|refine jS ?_|refine jD ?_|refine jB ?_)
 rw [hen]
 repeat (first|refine jS ?_|refine jD ?_|refine jB ?_)
 exact jR
theorem cread_bad (m:Mem) (a:Int) (K:Nat) (e:Int) (he:e≠0) (hw:m.words.length≤1000000) (ht:m.tags.length≤1000000) (h0:(lod m a).2=0) (hK:RdAny m (lod m a).1 K e) :
  ACalls Tryz.prog 20 [encMem m,iv a] [] (one (.tup [encPs [],iv e]) []):=by
 have hn:=nodes_ok (m.words.map iv) (m.tags.map iv) a
 have hit:=fun l c=>nodes1_bad l c m a K e he hw ht h0 hK
 generalize (lod m a).1=t0 at *
 have hle:=hK.le
 have hen:(e != 0)=true:=by rw [bne_iff_ne];exact he
 unfold encMem mCells ivs encPs
 refine jC Tryz.func20 Tryz.ntmps20 (fun w0 β0 ext hβ=>?_)
 repeat (first|refine jS ?_|refine jD ?_|refine jB ?_)
 refine jBb [1] hn ?_
 repeat (first|refine jS ?_|refine jD ?_|refine jB ?_)
 refine jadB 2 0 46 2 rfl rfl rfl rfl ?_
 refine jrange [6,7] rfl rfl rfl (fun l c c1 c2 c3 c4 c5=>?_)
 have hc:=hit l c (fun k hk=>?_)
 ·unfold rdB at hc
  unfold rdH at hc
  refine ⟨_,hc,fun r H' hres=>?_⟩
  obtain ⟨rfl,rfl⟩:=hres
  refine ⟨_,.ready,none,_,.normal,rfl,rfl,by decide,rfl,?_⟩
  repeat (first|refine jS ?_|refine jD ?_|refine jB ?_)
  rw [hen]
  repeat (first|refine jS ?_|refine jD ?_|refine jB ?_)
  exact jR
 ·unfold rdH
  refine jround (ts:=[6,7]) c1 c2 c3 c4 c5 (j:=6) rfl rfl rfl (fun w1 β1 ext1 hβ1=>?_)
  have hpl:=prsQ_len m t0 k
  have hsu:=prsQ_succ m t0 k
  rw [hsu]
  generalize prQ m t0 k=pr at *
  obtain ⟨pk,pv⟩:=pr
  generalize prsQ m t0 k=L at *
  repeat (first|refine jS ?_|refine jD ?_|refine jB ?_)
  refine jlp ⟨rfl,?_⟩
  repeat (first|refine jS ?_|refine jD ?_|refine jB ?_)
  refine jo rfl rfl (append_enc (enc:=encP) (l:=L) (pk,pv) rfl rfl rfl rfl rfl rfl rfl rfl rfl rfl (fun x=>⟨rfl,rfl⟩) rfl (by omega) rfl rfl) rfl rfl ?_
  repeat (first|refine jS ?_|refine jD ?_|refine jB ?_)
  exact jrend none rfl rfl rfl rfl ⟨rfl,rfl⟩
theorem lod_right {m:Mem} (hr:mRight m=true) (k:Int):lod m k=mLoad m k:=by unfold lod;rw [hr];rfl
theorem lod_bad {m:Mem} {k:Int} (h:(lod m k).2≠0):(lod m k).1=0:=by
 unfold lod at *
 cases hr:mRight m with
 | false=>rfl
 | true =>
  rw [hr] at h
  simp only [cond_true] at *
  unfold mLoad at *
  by_cases e:mUse m k=0
  ·rw [decide_eq_true e] at h;exact absurd rfl h
  ·rw [decide_eq_false e];rfl
theorem lod_i64 {m:Mem} (hx:∀ x∈m.words,i64r x) (k:Int):i64r (lod m k).1:=by
 have h0:i64r 0:=by unfold i64r;exact ⟨by decide,by decide⟩
 unfold lod
 cases mRight m with
 | false=>exact h0
 | true =>
  simp only [cond_true]
  unfold mLoad
  cases decide (mUse m k=0) with
  | false=>exact h0
  | true =>
   show i64r (g0 m.words k.toNat)
   rw [g0_q]
   cases e:m.words[k.toNat]? with
   | none=>exact h0
   | some x=>exact hx x (List.mem_of_getElem? e)
theorem toQ_i64 {m:Mem} (hx:∀ x∈m.words,i64r x) {t0:Int} (h0:i64r t0):∀ q,i64r (toQ m t0 q)
 | 0=>h0
 | q+1=>lod_i64 hx _
theorem rread_first (m:Mem) (a e:Int) (he:e≠0) (hr:mRight m=true) (h0:lod m a=(0,e)) :
  ACalls Tryz.prog 22 [encMem m,iv a] [] (one (.tup [encPs [],iv e]) []):=by
 have h1:=rload_ok m a hr
 rw [←lod_right hr,h0] at h1
 have hen:(e != 0)=true:=by rw [bne_iff_ne];exact he
 have hen2:(e == 0)=false:=beq_eq_false_iff_ne.2 he
 unfold encMem mCells ivs encPs at *
 refine jC Tryz.func22 Tryz.ntmps22 (fun w0 β0 ext hβ=>?_)
 repeat (first|refine jS ?_|refine jD ?_|refine jB ?_|refine jV h1 ?_)
 refine jloop 1 (fun q:Nat=>q=0) [8] (fun q=>[iv e])
  (fun k=>_) (fun q=>0) 0 (by show β0.length≤1;rw [hβ];exact Nat.zero_le _) rfl rfl rfl (fun q hq=>?_)
 repeat (first|refine jS ?_|refine jD ?_|refine jB ?_)
 rw [hen2]
 repeat (first|refine jS ?_|refine jD ?_|refine jB ?_)
 rw [hen]
 repeat (first|refine jS ?_|refine jD ?_|refine jB ?_)
 exact jR
def wAt (to:Int) (k:Nat):Int:=IntKind.i64.wrap (to+(k:Int))
theorem wAt0 {to:Int} (h:i64r to):wAt to 0=to:=by
 unfold wAt i64r at *
 rw [wrap_id (by omega) (by omega)];omega
theorem nd_fault {m:Mem} {to:Int} (hi:i64r to):∀ k,k < 3→(∀ j,j < k→(lod m (wAt to j)).2=0)→(lod m (wAt to k)).2≠0→ndE m to=(lod m (wAt to k)).2
 | 0,_,_,h=>by
  rw [wAt0 hi] at h ⊢
  unfold ndE
  rw [decide_eq_false h];rfl
 | 1,_,hp,h=>by
  have h0:=hp 0 (by omega)
  rw [wAt0 hi] at h0
  have h1:(lod m (IntKind.i64.wrap (to+1))).2≠0:=h
  unfold ndE
  rw [decide_eq_true h0,decide_eq_false h1];rfl
 | 2,_,hp,h=>by
  have h0:=hp 0 (by omega)
  rw [wAt0 hi] at h0
  have h1:(lod m (IntKind.i64.wrap (to+1))).2=0:=hp 1 (by omega)
  unfold ndE
  rw [decide_eq_true h0,decide_eq_true h1];rfl
 | k+3,hk,_,_=>absurd hk (by omega)
theorem nd_all {m:Mem} {to:Int} (hi:i64r to) (hp:∀ j,j < 3→(lod m (wAt to j)).2=0):ndE m to=0:=by
 have h0:=hp 0 (by omega)
 rw [wAt0 hi] at h0
 have h1:(lod m (IntKind.i64.wrap (to+1))).2=0:=hp 1 (by omega)
 have h2:(lod m (IntKind.i64.wrap (to+2))).2=0:=hp 2 (by omega)
 unfold ndE
 rw [decide_eq_true h0,decide_eq_true h1];exact h2
theorem rd_node {m:Mem} {t0 e:Int} {K q:Nat} (hK:RdAny m t0 K e) (hi:i64r (toQ m t0 q)) (hq:q≤K) (hn:toQ m t0 q≠0) (h12:q < 12) :
  (q < K∧∀ j,j < 3→(lod m (wAt (toQ m t0 q) j)).2=0)∨(q=K∧e≠0∧ndE m (toQ m t0 q)=e):=by
 by_cases h:q < K
 ·obtain ⟨g0,g1,g2,g3⟩:=hK.go q h
  refine .inl ⟨h,fun j hj=>?_⟩
  rcases (by omega:j=0∨j=1∨j=2) with rfl|rfl|rfl
  ·rw [wAt0 hi];exact g1
  ·exact g2
  ·exact g3
 ·have e1:q=K:=by omega
  subst e1
  rcases hK.fin with ⟨f,_⟩|⟨_,f,_⟩|⟨_,_,f3,f4⟩
  ·exact absurd f hn
  ·omega
  ·exact .inr ⟨rfl,f4,f3⟩
def vAt (v:Nat→Int × Int) (j k:Nat):Int:=cond (Nat.blt j k) (v j).1 0
theorem rread_any (m:Mem) (a:Int) (K:Nat) (e:Int) (hr:mRight m=true) (hx:∀ x∈m.words,i64r x) (h0:(lod m a).2=0) (hK:RdAny m (lod m a).1 K e) :
  ACalls Tryz.prog 22 [encMem m,iv a] [] (one (.tup [encPs (if e=0 then prsQ m (lod m a).1 K else []),iv e]) []):=by
 have h1:=rload_ok m a hr
 rw [←lod_right hr,h0] at h1
 have hi:=toQ_i64 hx (lod_i64 hx a)
 have hl0:∀ k,ACalls Tryz.prog 55 [encMem m,iv k] [] (one (.tup [iv (lod m k).1,iv (lod m k).2]) []):=fun k=>by
  have h:=rload_ok m k hr
  rw [←lod_right hr] at h
  exact h
 have hle:=hK.le
 generalize (lod m a).1=t0 at *
 unfold encMem mCells ivs encPs at *
 refine jC Tryz.func22 Tryz.ntmps22 (fun w0 β0 ext hβ=>?_)
 repeat (first|refine jad 6 46 2 rfl rfl rfl rfl ?_|refine jS ?_|refine jD ?_|refine jB ?_|refine jV h1 ?_)
 refine jloop 2 (fun q:Nat=>q≤K) [2,6,7,8] (fun q=>[.ptr 0 0,.arr 1 (q+1),iv (toQ m t0 q),iv 0])
  (fun q=>[.box 26 [.sl (m.words.map iv),.sl (m.tags.map iv)],.arr (q+1) 46 2 ((prsQ m t0 q).map encP)]) (fun q=>K-q) 0 (by show β0.length≤2;rw [hβ];exact Nat.zero_le _) (Nat.zero_le _) rfl rfl (fun q hq=>?_)
 have hpl:=prsQ_len m t0 q
 have hsu:=prsQ_succ m t0 q
 have hiq:=hi q
 by_cases hn:toQ m t0 q=0
 ·have hqK:q=K:=by
   by_cases h:q < K
   ·exact absurd hn (hK.go q h).1
   ·omega
  subst hqK
  rcases hK.fin with ⟨_,rfl⟩|⟨f,_⟩|⟨f,_⟩
  ·rw [if_pos rfl]
   repeat (first|refine jS ?_|refine jD ?_|refine jB ?_)
   rw [show (toQ m t0 q != 0)=false from by rw [hn];rfl]
   repeat (first|refine jS ?_|refine jD ?_|refine jB ?_)
   exact jr rfl (fin_arr rfl rfl rfl rfl) rfl rfl
  ·exact absurd hn f
  ·exact absurd hn f
 ·have hne:(toQ m t0 q != 0)=true:=by rw [bne_iff_ne];exact hn
  by_cases h12:q=12
  ·have hqK:q=K:=by omega
   subst hqK
   rcases hK.fin with ⟨f,_⟩|⟨_,_,rfl⟩|⟨_,f,_⟩
   ·exact absurd f hn
   ·rw [if_neg (by decide)]
    repeat (first|refine jS ?_|refine jD ?_|refine jB ?_)
    rw [hne]
    repeat (first|refine jS ?_|refine jD ?_|refine jB ?_|refine jo rfl rfl (len_arr rfl rfl rfl rfl) rfl rfl ?_)
    rw [show ((((prsQ m t0 q).map encP).length:Int) == 12)=true from by rw [List.length_map,hpl,h12];rfl]
    repeat (first|refine jS ?_|refine jD ?_|refine jB ?_)
    exact jR
   ·omega
  ·have hnd:=rd_node hK hiq hq hn (by omega)
   have hfl:=nd_fault (m:=m) hiq
   have hal:=nd_all (m:=m) hiq
   have hl:=fun k:Nat=>hl0 (wAt (toQ m t0 q) k)
   have htn:toQ m t0 (q+1)=(lod m (wAt (toQ m t0 q) 2)).1:=rfl
   have hpr:prQ m t0 q=((lod m (wAt (toQ m t0 q) 0)).1,(lod m (wAt (toQ m t0 q) 1)).1):=by rw [wAt0 hiq];rfl
   rw [hpr] at hsu
   have hl2:∀ k:Nat,∃ v:Nat→Int × Int,v=fun k=>lod m (wAt (toQ m t0 q) k):=fun _=>⟨_,rfl⟩
   obtain ⟨v,hv⟩:=hl2 0
   have hve:∀ k,lod m (wAt (toQ m t0 q) k)=v k:=fun k=>by rw [hv]
   simp only [hve] at hnd hfl hal hl htn hsu
   unfold wAt at hl
   clear hpr hl2 hl0 hv hve
   generalize toQ m t0 q=to at *
   repeat (first|refine jS ?_|refine jD ?_|refine jB ?_)
   rw [hne]
   repeat (first|refine jS ?_|refine jD ?_|refine jB ?_|refine jo rfl rfl (len_arr rfl rfl rfl rfl) rfl rfl ?_)
   rw [show ((((prsQ m t0 q).map encP).length:Int) == 12)=false from by rw [List.length_map,hpl];exact beq_eq_false_iff_ne.2 (by omega)]
   repeat (first|refine jS ?_|refine jD ?_|refine jB ?_)
   refine jloop 3 (fun k:Nat=>k≤3∧∀ j,j < k→(v j).2=0) [2,6,7,8,9,10] (fun k=>[.ptr 0 0,.arr 1 (q+1),iv to,iv 0,.ptr 2 0,iv (k:Int)])
    (fun k=>[.box 26 [.sl (m.words.map iv),.sl (m.tags.map iv)],.arr (q+1) 46 2 ((prsQ m t0 q).map encP),.box 116 [iv (vAt v 0 k),iv (vAt v 1 k),iv (vAt v 2 k)]]) (fun k=>3-k) 0 (by show β0.length≤3;rw [hβ];exact Nat.zero_le _) ⟨Nat.zero_le _,fun j hj=>absurd hj (by omega)⟩ rfl rfl (fun k hk=>?_)
   obtain ⟨hk3,hp⟩:=hk
   by_cases k3:k=3
   ·subst k3
    have hqK:q < K:=by
     rcases hnd with ⟨h,_⟩|⟨_,h2,h3⟩
     ·exact h
     ·rw [hal hp] at h3;exact absurd h3.symm h2
    repeat (first|refine jS ?_|refine jD ?_|refine jB ?_|refine jo rfl rfl (index_arr rfl rfl rfl rfl rfl (by decide) (by decide)) rfl rfl ?_)
    refine jo rfl rfl (append_enc (enc:=encP) (l:=prsQ m t0 q) ((v 0).1,(v 1).1) rfl rfl rfl rfl rfl rfl rfl rfl rfl rfl (fun x=>⟨rfl,rfl⟩) rfl (by omega) rfl rfl) rfl rfl ?_
    rw [←hsu]
    repeat (first|refine jS ?_|refine jD ?_|refine jB ?_|refine jo rfl rfl (index_arr rfl rfl rfl rfl rfl (by decide) (by decide)) rfl rfl ?_)
    refine jnext (q+1) hqK (by omega) rfl rfl rfl ?_ rfl
    rw [htn];rfl
   ·have hlk:=hl k
    by_cases hz:(v k).2=0
    ·have hp':∀ j,j < k+1→(v j).2=0:=fun j hj=>by
      by_cases e:j=k
      ·subst e;exact hz
      ·exact hp j (by omega)
     rw [hz] at hlk
     rcases (by omega:k=0∨k=1∨k=2) with rfl|rfl|rfl
     ·repeat (first|refine jS ?_|refine jD ?_|refine jB ?_|refine jV hlk ?_|refine jo rfl rfl (index_arr rfl rfl rfl rfl rfl (by decide) (by decide)) rfl rfl ?_)
      exact jnext 1 ⟨by omega,hp'⟩ (by omega) rfl rfl rfl rfl rfl
     ·repeat (first|refine jS ?_|refine jD ?_|refine jB ?_|refine jV hlk ?_|refine jo rfl rfl (index_arr rfl rfl rfl rfl rfl (by decide) (by decide)) rfl rfl ?_)
      exact jnext 2 ⟨by omega,hp'⟩ (by omega) rfl rfl rfl rfl rfl
     ·repeat (first|refine jS ?_|refine jD ?_|refine jB ?_|refine jV hlk ?_|refine jo rfl rfl (index_arr rfl rfl rfl rfl rfl (by decide) (by decide)) rfl rfl ?_)
      exact jnext 3 ⟨by omega,hp'⟩ (by omega) rfl rfl rfl rfl rfl
    ·have hf:=hfl k (by omega) hp hz
     have he:e=(v k).2∧e≠0:=by
      rcases hnd with ⟨_,h⟩|⟨_,h2,h3⟩
      ·exact absurd (h k (by omega)) hz
      ·exact ⟨h3.symm.trans hf,h2⟩
     obtain ⟨he1,he2⟩:=he
     rw [if_neg he2]
     have hen:((v k).2 != 0)=true:=by rw [bne_iff_ne];exact hz
     rw [he1]
     repeat (first|refine jS ?_|refine jD ?_|refine jB ?_)
     rw [show decide ((k:Int) < 3)=true from decide_eq_true (by omega)]
     repeat (first|refine jS ?_|refine jD ?_|refine jB ?_|refine jV hlk ?_)
     rw [hen]
     repeat (first|refine jS ?_|refine jD ?_|refine jB ?_)
     exact jR
theorem read_both (m:Mem) (a:Int) (hr:mRight m=true) (hx:∀ x∈m.words,i64r x) (hw:m.words.length≤1000000) (ht:m.tags.length≤1000000) :
  ∃ (L:List Pr) (e:Int),L.length≤12∧ACalls Tryz.prog 20 [encMem m,iv a] [] (one (.tup [encPs L,iv e]) [])∧ACalls Tryz.prog 22 [encMem m,iv a] [] (one (.tup [encPs L,iv e]) []):=by
 by_cases h0:(lod m a).2=0
 ·obtain ⟨K,e,hK⟩:=rd_any m (lod m a).1
  have h2:=rread_any m a K e hr hx h0 hK
  by_cases he:e=0
  ·subst he
   rw [if_pos rfl] at h2
   refine ⟨_,0,by rw [prsQ_len];exact hK.le,cread_ok m a K hw ht h0 ⟨hK.le,hK.go,?_⟩,h2⟩
   rcases hK.fin with ⟨f,_⟩|⟨_,_,f⟩|⟨_,_,_,f⟩
   ·exact f
   ·cases f
   ·exact absurd rfl f
  ·rw [if_neg he] at h2
   exact ⟨[],e,by decide,cread_bad m a K e he hw ht h0 hK,h2⟩
 ·have h1:lod m a=(0,(lod m a).2):=by rw [←lod_bad h0]
  exact ⟨[],_,by decide,cread_first m a _ h0 hw ht h1,rread_first m a _ h0 hr h1⟩
theorem chr_law (g:Gl) (ws ts:List Int) (a:Int) (hx:∀ x∈ws,i64r x):ACalls Tryz.prog 6 [ivs ws,ivs ts,iv a] (gls g) (one (bv true) (gls g)):=by
 have hm:=lmem_ok ws ts
 have hw:(ws.take 170).length≤1000000:=by rw [List.length_take];omega
 have ht:(ts.take 170).length≤1000000:=by rw [List.length_take];omega
 have hx:∀ x∈ws.take 170,i64r x:=fun x h=>hx x (List.mem_of_mem_take h)
 generalize hmm:(⟨ws.take 170,ts.take 170⟩:Mem)=m at *
 have hw:m.words.length≤1000000:=by subst hmm;exact hw
 have ht:m.tags.length≤1000000:=by subst hmm;exact ht
 have hx:∀ x∈m.words,i64r x:=by subst hmm;exact hx
 have h2:=rmright_ok m hw ht
 have h3:=chalive_ok g
 cases hR:mRight m with
 | false =>
  have h1:=cread_first m a 1 (by decide) hw ht (by unfold lod;rw [hR];rfl)
  rw [hR] at h2
  unfold encPs ivs at *
  unfold gls at *
  unfold encMem mCells ivs at *
  refine jC Tryz.func6 Tryz.ntmps6 (fun w0 β0 ext hβ=>?_)
  repeat (first|refine jS ?_|refine jD ?_|refine jB ?_|refine jV hm ?_|refine jV h1 ?_|refine jV h2 ?_)
  refine jBb [0,1,2,3] h3 ?_
  repeat (first|refine jS ?_|refine jD ?_|refine jB ?_)
  exact jR
 | true =>
  obtain ⟨L,e,hL,h1,h4⟩:=read_both m a hR hx hw ht
  have h5:=csame_ok L (by omega)
  rw [hR] at h2
  unfold encPs ivs at *
  unfold gls at *
  unfold encMem mCells ivs at *
  refine jC Tryz.func6 Tryz.ntmps6 (fun w0 β0 ext hβ=>?_)
  repeat (first|refine jS ?_|refine jD ?_|refine jB ?_|refine jV hm ?_|refine jV h1 ?_|refine jV h2 ?_|refine jV h4 ?_)
  refine jBb [0,1,2,3] h3 ?_
  repeat (first|refine jS ?_|refine jD ?_|refine jB ?_)
  rw [show (e == e)=true from by simp]
  repeat (first|refine jS ?_|refine jD ?_|refine jB ?_|refine jV h5 ?_)
  exact jR
end Go.AL
end
section
set_option maxRecDepth 100000
namespace Go.Proofs.YteefnlbapebamaaGreatDoor
open Go Go.AL Go.ChangeShapes Go.WideShapes Go.ChangeAt Go.RowKit
theorem own:ownKnob Tryz.prog.godebug=none:=by kernel_rfl
theorem kids:Kids Tryz.prog (· < Tryz.prog.types.size):=kids_rows (by kernel_rfl) (by kernel_rfl)
theorem full:∀ t e,t < Tryz.prog.types.size→Tryz.prog.underlying t=some (.slice e)→0 < Tryz.prog.cellsOf e:=slices_full_of _ (by kernel_rfl)
theorem g_pow:Tryz.prog.globalNamed "internal/strconv.uint64pow10" = some 1:=by kernel_rfl
theorem g_syn:Tryz.prog.globalNamed "strconv.ErrSyntax" = some 5:=by kernel_rfl
theorem g_ran:Tryz.prog.globalNamed "strconv.ErrRange" = some 6:=by kernel_rfl
def glx (g:Gl):List (Nat × Obj):=[(1,.cells powV g.t1 g.f1),(5,.cells #[.iface g.e2 g.p2] g.t2 g.f2),(6,.cells #[.iface g.e3 g.p3] g.t3 g.f3),(4,.cells #[.int .i64 g.m] g.t0 g.f0)]
theorem var_heap {W:World} {n:String} {g:Nat} {cs:Array Value} (hg:Tryz.prog.globalNamed n=some g) (hv:W.var? Tryz.prog n=some cs):∃ t f,W.heap[g]? = some (.cells cs t f):=by
 unfold World.var? at hv
 rw [hg] at hv
 simp only [Option.bind_some] at hv
 split at hv
 ·rename_i c t f h
  injection hv with hv
  exact ⟨t,f,by rw [h,hv]⟩
 ·cases hv
theorem iface_head {W:World} {n nm:String} {x:DataW Unit} {r:List (String × DataW Unit)} {g:Nat} {t:TypeId} {ms:Array (String × TypeId)} (h:laidMet Tryz.prog ((n,.iface nm x)::r) W)
  (hg:Tryz.prog.globalNamed n=some g) (ht:(Tryz.prog.globals[g]?).map (·.type)=some t) (hu:Tryz.prog.underlying t=some (.interface ms)):∃ e p,W.var? Tryz.prog n=some #[.iface e p]:=by
 obtain ⟨ps,⟨g0,t0,cs0,f0,p0,q0,hg0,ht0,hv0,hd0,_,_⟩,_,_⟩:=h
 obtain rfl:=Option.some.inj (hg.symm.trans hg0)
 obtain rfl:=Option.some.inj (ht.symm.trans ht0)
 obtain ⟨_,u,v,e,_,_⟩:=iface_of_trod hu hd0
 refine ⟨u,v,?_⟩
 rw [hv0]
 congr 1
 apply Array.ext'
 simpa using e
def laidL:List (String × DataW Unit):=[("math/bits.deBruijn32tab",Rows.laid_math_bits_deBruijn32tab),("math/bits.deBruijn64tab",Rows.laid_math_bits_deBruijn64tab),("internal/strconv.uint64pow10",Rows.laid_internal_strconv_uint64pow10),("unicode/utf8.acceptRanges",Rows.laid_unicode_utf8_acceptRanges),("errors.errorType",Rows.laid_errors_errorType),("strconv.ErrRange",Rows.laid_strconv_ErrRange),("strconv.ErrSyntax",Rows.laid_strconv_ErrSyntax),("unicode/utf8.first",Rows.laid_unicode_utf8_first)]
def plainL:List (String × DataW Unit):=[("math/bits.deBruijn32tab",Rows.laid_math_bits_deBruijn32tab),("math/bits.deBruijn64tab",Rows.laid_math_bits_deBruijn64tab),("internal/strconv.uint64pow10",Rows.laid_internal_strconv_uint64pow10),("unicode/utf8.acceptRanges",Rows.laid_unicode_utf8_acceptRanges),("strconv.ErrRange",Rows.laid_strconv_ErrRange),("strconv.ErrSyntax",Rows.laid_strconv_ErrSyntax),("unicode/utf8.first",Rows.laid_unicode_utf8_first)]
theorem plain_eq:(laidL.filter fun x=>x.2.handleName?.isNone)=plainL:=by kernel_rfl
theorem laid_plain {W:World} (h:laidMetH Tryz.prog laidL W):laidMet Tryz.prog plainL W:=by
 have h1:=(laidMetH_iff.1 h).1
 rwa [plain_eq] at h1
noncomputable def errW (os:Os):World :=
 let w0:=World.holding Tryz.prog os ⟨#[],#[],[]⟩
 { w0 with heap:=w0.heap.modify 0 fun
   | .cells _ t frozen=>.cells #[.iface 261 (.agg #[typeHandle Tryz.prog 88])] t frozen
   | o=>o }
noncomputable def laidW (os:Os):World:=(errW os).layVars Tryz.prog plainL
theorem laidW_os (os:Os):(laidW os).os=os:=World.layVars_os _ _ _
theorem laidW_met (os:Os) (args:Array Value):laidMetH Tryz.prog laidL ((laidW os).forCall (fun _ _=>0) ⟨#[],args,[]⟩).memory:=by
 refine laidMetH_of_parts ?_ (by kernel_rfl)
 rw [plain_eq]
 have e1:(plainL.filter fun x=>(plainL.map (·.1)).contains x.1)=plainL:=List.filter_eq_self.2 fun x hx=>List.contains_iff_mem.2 (List.mem_map.2 ⟨x,hx,rfl⟩)
 have e2:(plainL.filter fun x=>!(plainL.map (·.1)).contains x.1)=[]:=List.filter_eq_nil_iff.2 fun x hx=>by rw [List.contains_iff_mem.2 (List.mem_map.2 ⟨x,hx,rfl⟩)];simp
 have h:laidMet Tryz.prog plainL (laidW os):=laidMet_layVars (w0:=errW os) (plainL.map (·.1)) [] (by rw [e1];rfl) (by rw [e1];kernel_rfl) (by rw [e1];kernel_rfl) (by rw [e2];exact LaidIn.none)
 exact h.of_heap (by simp [World.memory,World.forCall,Input.heap])
theorem gl_exists {W:World} (hL:laidMetH Tryz.prog laidL W) (hS:W.ShapedOpen Tryz.prog):∃ g:Gl,∀ p∈glx g,W.heap[p.1]? = some p.2∧∀ d,p.2 ≠ .deferred d:=by
 replace hL:=laid_plain hL
 have h3:=hL.tail.tail
 have h5:=hL.tail.tail.tail.tail
 have h6:=hL.tail.tail.tail.tail.tail
 obtain ⟨t1,f1,a1⟩:=var_heap g_pow (Lib.tabIs_of_head (k:=.u64) (zs:=Lib.pow10Tab) (n:=20) (t:=295) (e:=245) g_pow (by kernel_rfl) (by kernel_rfl) (by kernel_rfl) (by kernel_rfl) (by kernel_rfl) h3)
 obtain ⟨e3,p3,b3⟩:=iface_head (t:=88) h5 g_ran (by kernel_rfl) Tryz.underlying88
 obtain ⟨e2,p2,b2⟩:=iface_head (t:=88) h6 g_syn (by kernel_rfl) Tryz.underlying88
 obtain ⟨t3,f3,a3⟩:=var_heap g_ran b3
 obtain ⟨t2,f2,a2⟩:=var_heap g_syn b2
 obtain ⟨m,a0⟩:=shaped_int (g:=4) (t:=3) (zero:=#[.int .i64 0]) (k:=.i64) hS (of_decide_eq_true (by kernel_rfl)) (by kernel_rfl) rfl (by kernel_rfl) (by kernel_rfl) (by kernel_rfl)
 refine ⟨⟨t1,t2,t3,f1,f2,f3,e2,e3,p2,p3,3,(0,0),m⟩,fun p hp=>?_⟩
 simp only [glx,List.mem_cons,List.mem_nil_iff,or_false] at hp
 rcases hp with rfl|rfl|rfl|rfl
 ·exact ⟨a1,fun d h=>by cases h⟩
 ·exact ⟨a2,fun d h=>by cases h⟩
 ·exact ⟨a3,fun d h=>by cases h⟩
 ·exact ⟨a0,fun d h=>by cases h⟩
end Go.Proofs.YteefnlbapebamaaGreatDoor
end
section
set_option maxRecDepth 100000
namespace Go.Proofs.YteefnlbapebamaaGreatDoor
open Go Go.AL Go.ChangeShapes Go.WideShapes Go.ChangeAt Go.RowKit
section
variable {H:Type} {enc:TypeId × Value→H} {W:World} {v:Value} {d:DataW H} {p:List MemPlace}
theorem open_list {α:Type} {encX:α→AVal} {t e:TypeId} {r r':TyRow} (f:List Int→α) (ht:tfind tyTab.tab t=some r') (hd':r'.d = .slice e) (he:tfind tyTab.tab e=some r) (hi:allInt tyTab.tab Tryz.prog.stoodInHeld 100 e=true) (hz:r.size≠0) (h1:aggB r.d=false→r.size=1)
  (hf:∀ ns:List Int,ns.length=r.size→encX (f ns)=rowA (aggB r.d) ns) (hv:∃ a l c,v = .slice a l c) (h:DataW.Trod enc Tryz.prog W 0 (fun _=>true) true t v d p):∃ m:List α,m.length≤maxLen∧Rel (out W) (.sl (m.map encX)) v:=by
 obtain ⟨a,l,c,rfl⟩:=hv
 obtain ⟨n,hn⟩:=h
 obtain ⟨nss,g1,g2,g3⟩:=open_rows (T:=tyTab) (st:=Tryz.prog.stoodInHeld) (n:=100) ht hd' he hi hz h1 hn
 refine ⟨nss.map f,by simpa using g2,?_⟩
 have:(nss.map f).map encX=nss.map (rowA (aggB r.d)):=by
  rw [List.map_map]
  exact List.map_congr_left fun ns hns=>hf ns (g1 ns hns)
 rw [this]
 exact g3
theorem one_ints:∀ {ns:List Int},ns.length=1→∃ a,ns=[a]
 | [a],_=>⟨a,rfl⟩
theorem open_ints (hv:∃ a l c,v = .slice a l c) (h:DataW.Trod enc Tryz.prog W 0 (fun _=>true) true 23 v d p):∃ m:List Int,m.length≤maxLen∧Rel (out W) (ivs m) v :=
 open_list (fun ns=>ns.headD 0) rfl rfl rfl (by kernel_rfl) (by decide) (fun _=>rfl) (fun ns hn=>by obtain ⟨a,rfl⟩:=one_ints hn;rfl) hv h
theorem open_int (hv:∃ n,v = .int .i64 n) (h:DataW.Trod enc Tryz.prog W 0 (fun _=>true) true 3 v d p):∃ n:Int,True∧Rel (out W) (.v (.int .i64 n)) v:=by
 obtain ⟨n,rfl⟩:=hv
 exact ⟨n,trivial,rfl⟩
end
end Go.Proofs.YteefnlbapebamaaGreatDoor
end
section
set_option maxRecDepth 100000
namespace Go.AL
open Go Go.Deep
theorem wf_r {z:Int} (h:(Lit.int .i64 z).wf=true):i64r z:=by
 unfold Lit.wf at h
 rw [Bool.and_eq_true] at h
 exact ⟨of_decide_eq_true h.1,of_decide_eq_true h.2⟩
section
variable {P:Program} [T:TyTab P] {H:Type} {enc:TypeId × Value→H} {w:World} {base:Nat} {sp:Nat→Bool} {hd:Bool}
theorem trod_intsR {st:TypeId→Bool}:∀ (n:Nat) (t:TypeId) (r:TyRow) (fuel:Nat) (cs:List Value) (x:DataW H × List MemPlace),allInt T.tab st n t=true→tfind T.tab t=some r →
  DataW.trod enc P w base sp hd fuel t cs=some x→∃ ns:List Int,(cs=intsV ns∧ns.length=r.size)∧∀ z∈ns,i64r z
 | 0,t,r,fuel,cs,x,h,_,_=>by cases h
 | n+1,t,r,fuel,cs,x,h,ht,hx=>by
  simp only [allInt,ht] at h
  have hu:=ty_und ht
  split at h
  ·rename_i hk
   rw [hk] at hu
   have h1:=Nat.eq_of_beq_eq_true h
   obtain ⟨z,rfl,_,hwf⟩:=DataW.trod_int hu hx
   refine ⟨[z],⟨rfl,by simp [h1]⟩,fun y hy=>?_⟩
   obtain rfl:=List.mem_singleton.1 hy
   exact wf_r hwf
  ·rename_i fs hk
   rw [hk] at hu
   simp only [Bool.and_eq_true] at h
   obtain ⟨xs,m,rfl,rfl,hlen,hxl,hfs⟩:=DataW.trod_struct hu hx
   rw [ty_cells ht] at hlen
   have key:∀ (gs:List Field) (off:Nat),(∀ f∈gs,∃ y,DataW.trod enc P w base sp hd m f.type ((cs.drop f.offset).take (P.cellsOf f.type))=some y)→fieldsRun T.tab (allInt T.tab st n) r.size off gs=true→∃ ns:List Int,cs.drop off=intsV ns∧∀ z∈ns,i64r z:=by
    intro gs
    induction gs with
    | nil =>
     intro off _ hg
     have:=Nat.eq_of_beq_eq_true hg
     exact ⟨[],List.drop_of_length_le (by omega),fun z hz=>by cases hz⟩
    | cons f gs ih =>
     intro off hy hg
     simp only [fieldsRun,Bool.and_eq_true] at hg
     obtain ⟨⟨⟨g1,g2⟩,g3⟩,g4⟩:=hg
     have g1:=Nat.eq_of_beq_eq_true g1
     cases hr:tfind T.tab f.type with
     | none=>rw [hr] at g4;cases g4
     | some r' =>
      rw [hr] at g4
      obtain ⟨y,hy1⟩:=hy f (List.mem_cons_self ..)
      obtain ⟨a,⟨ha,hal⟩,har⟩:=trod_intsR n f.type r' m _ y g3 hr hy1
      obtain ⟨b,hb,hbr⟩:=ih (off+r'.size) (fun f hf=>hy f (List.mem_cons_of_mem _ hf)) g4
      refine ⟨a++b,?_,fun z hz=>(List.mem_append.1 hz).elim (har z) (hbr z)⟩
      rw [←List.take_append_drop r'.size (cs.drop off),List.drop_drop,hb]
      rw [g1,ty_cells hr] at ha
      rw [ha]
      simp [intsV]
   obtain ⟨ns,hns,hnr⟩:=key fs.toList 0 (fun f hf=>by
    obtain ⟨i,hi,rfl⟩:=List.getElem_of_mem hf
    have h1:=hfs i fs.toList[i] (by rw [←Array.getElem?_toList];exact List.getElem?_eq_getElem hi)
    rw [List.getElem?_eq_getElem (by rw [hxl];simpa using hi)] at h1
    exact ⟨_,h1⟩) h.2
   rw [List.drop_zero] at hns
   refine ⟨ns,⟨hns,?_⟩,hnr⟩
   rw [←hlen,hns];simp [intsV]
  ·cases h
theorem open_rowsR {st:TypeId→Bool} {n:Nat} {t e:TypeId} {r r':TyRow} {fuel:Nat} {u:Value} {x:DataW H × List MemPlace} (ht:tfind T.tab t=some r') (hd':r'.d = .slice e) (he:tfind T.tab e=some r) (hi:allInt T.tab st n e=true)
  (hz:r.size≠0) (h1:aggB r.d=false→r.size=1) (h:DataW.trod enc P w 0 sp hd fuel t [u]=some x) :
  ∃ nss:List (List Int),(∀ ns∈nss,ns.length=r.size∧∀ z∈ns,i64r z)∧nss.length≤maxLen∧Rel (out w) (.sl (nss.map (rowA (aggB r.d)))) u:=by
 have hu:P.underlying t=some (.slice e):=by rw [ty_und ht,hd']
 rcases open_slice hu h with ⟨h0,_⟩|⟨a,len,cap,m,k,D,Pl,hcs,_,hl,hm,hmm,_,hx⟩
 ·injection h0 with h0
  subst h0
  exact ⟨[],by simp,by simp,none,0,0,rfl,Nat.le_refl _,fun h=>absurd rfl h,trivial⟩
 ·injection hcs with hcs
  subst hcs
  rw [ty_cells he] at hx
  have hlm:len≤m:=by rw [hmm];split<;>omega
  have each:∀ i,i < len→∃ ns:List Int,(ns.length=r.size∧∀ z∈ns,i64r z)∧w.cells? 0 (a.add (i*r.size)) r.size=some (intsV ns):=fun i hi'=>by
   obtain ⟨cs',g1,g2⟩:=hx i (by omega)
   obtain ⟨ns,⟨rfl,hn⟩,hnr⟩:=trod_intsR n e r k cs' _ hi he g2
   exact ⟨ns,⟨hn,hnr⟩,g1⟩
  obtain ⟨N,hN⟩:=choose_lt (α:=List Int) (p:=fun i ns=>(ns.length=r.size∧∀ z∈ns,i64r z)∧w.cells? 0 (a.add (i*r.size)) r.size=some (intsV ns)) each
  have hlen:((List.range len).map N).length=len:=by simp
  refine ⟨(List.range len).map N,fun ns hns=>?_,by rw [hlen];omega,some a,cap,r.size,by simp,by simpa using hl,fun hne=>?_,?_⟩
  ·obtain ⟨i,hi',rfl⟩:=List.mem_map.1 hns
   exact (hN i (List.mem_range.1 hi')).1
  ·have hpos:0 < len:=by
    rcases Nat.eq_zero_or_pos len with h0|h0
    ·subst h0;simp at hne
    ·exact h0
   obtain ⟨⟨g1,_⟩,g2⟩:=hN 0 hpos
   obtain ⟨_,_,g3⟩:=World.cells?_some g2
   have g4:=g3 0 (by omega)
   rw [List.getElem?_eq_getElem (by simp [intsV,g1];omega)] at g4
   have hs:a.spot=none:=by
    have:(a.add (0*r.size)).add 0=a:=by simp [Addr.add]
    rw [this] at g4;exact addr_spot g4
   refine ⟨a.block,a.off,by cases a;simp_all,id,?_⟩
   have g5:w.cell? a=some (intsV (N 0))[0]:=by
    have:(a.add (0*r.size)).add 0=a:=by simp [Addr.add]
    rwa [this] at g4
   unfold World.cell? at g5
   rw [hs] at g5
   simp at g5
   by_cases hlt:a.block < w.heap.size
   ·exact hlt
   ·rw [Array.getElem?_eq_none (by omega)] at g5;cases g5
  ·refine RelR.of_get fun i y hy=>?_
   have hi':i < len:=by simpa using (List.getElem?_eq_some_iff.1 hy).1
   simp only [List.getElem?_map,List.getElem?_range hi',Option.map_some,Option.some.injEq] at hy
   subst hy
   obtain ⟨⟨g1,_⟩,g2⟩:=hN i hi'
   obtain ⟨_,_,g3⟩:=World.cells?_some g2
   have hs:a.spot=none:=by
    obtain ⟨⟨p1,_⟩,p2⟩:=hN 0 (by omega)
    obtain ⟨_,_,p3⟩:=World.cells?_some p2
    have p4:=p3 0 (by omega)
    rw [List.getElem?_eq_getElem (by simp [intsV,p1];omega)] at p4
    have:(a.add (0*r.size)).add 0=a:=by simp [Addr.add]
    rw [this] at p4;exact addr_spot p4
   have hadd:∀ j,a.add j=⟨a.block,a.off+j,none⟩:=fun j=>by
    unfold Addr.add;split
    ·rename_i hj;subst hj;cases a;simp_all
    ·rfl
   have hrd:∀ q,q < r.size→rdA w (some a) (i*r.size+q)=(intsV (N i))[q]?:=fun q hq=>by
    have:=g3 q hq
    rw [add_add,hadd] at this
    exact this
   cases ha:aggB r.d with
   | true =>
    refine ⟨.agg (intsV (N i)).toArray,⟨_,rfl,relL_ints _ _⟩,by simp [Value.cells,intsV,g1],fun q hq=>?_⟩
    simp only [Nat.zero_add]
    rw [hrd q hq];simp [Value.cells]
   | false =>
    have hs1:=h1 ha
    obtain ⟨z,hz'⟩:=List.length_eq_one_iff.1 (by rw [g1,hs1]:(N i).length=1)
    refine ⟨.int .i64 z,by rw [hz'];rfl,by rw [hs1];rfl,fun q hq=>?_⟩
    simp only [Nat.zero_add]
    rw [hrd q hq,hz']
    have:q=0:=by omega
    subst this;rfl
end
end Go.AL
namespace Go.Proofs.YteefnlbapebamaaGreatDoor
open Go Go.AL Go.ChangeShapes Go.WideShapes Go.ChangeAt Go.RowKit
section
variable {H:Type} {enc:TypeId × Value→H} {W:World} {v:Value} {d:DataW H} {p:List MemPlace}
theorem open_intsR (hv:∃ a l c,v = .slice a l c) (h:DataW.Trod enc Tryz.prog W 0 (fun _=>true) true 23 v d p):∃ m:List Int,(m.length≤maxLen∧∀ x∈m,i64r x)∧Rel (out W) (ivs m) v:=by
 obtain ⟨a,l,c,rfl⟩:=hv
 obtain ⟨n,hn⟩:=h
 obtain ⟨nss,g1,g2,g3⟩:=open_rowsR (T:=tyTab) (st:=Tryz.prog.stoodInHeld) (n:=100) (t:=23) (e:=3) rfl rfl rfl (by kernel_rfl) (by decide) (fun _=>rfl) hn
 refine ⟨nss.map fun ns=>ns.headD 0,⟨by simpa using g2,fun x hx=>?_⟩,?_⟩
 ·obtain ⟨ns,hns,rfl⟩:=List.mem_map.1 hx
  obtain ⟨hl,hr⟩:=g1 ns hns
  obtain ⟨a,rfl⟩:=List.length_eq_one_iff.1 hl
  exact hr a (List.mem_cons_self ..)
 ·have:(nss.map fun ns=>ns.headD 0).map iv=nss.map (rowA false):=by
   rw [List.map_map]
   exact List.map_congr_left fun ns hns=>by
    obtain ⟨a,rfl⟩:=List.length_eq_one_iff.1 (g1 ns hns).1
    rfl
  unfold ivs
  rw [this]
  exact g3
end
end Go.Proofs.YteefnlbapebamaaGreatDoor
end
