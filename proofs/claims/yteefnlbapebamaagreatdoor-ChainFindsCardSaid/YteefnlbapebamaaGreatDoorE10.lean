/-
  Part 10 of the proof texts: the program logic over the model, then the contracts of the functions that the laws reach. No conditions.
-/
import Derived.Test.YteefnlbapebamaaGreatDoorE9
import Derived.Test.YteefnlbapebamaaGreatDoorRows
import Derived.JoinedOf
import Derived.JoinedAt
import Derived.RowKit3
import Derived.LaidMore
import Derived.Lib.LaidTab
import Derived.Stop.LaidErr
import Derived.Lay
import Derived.LaidSub
import Derived.LaidHandle
import Derived.ChangeArms
set_option linter.unusedVariables false
set_option linter.unusedSimpArgs false
set_option maxHeartbeats 2000000
section
set_option maxRecDepth 100000
namespace Go.AL
open Go Go.Proofs
attribute [local irreducible] J
theorem stL_full:∀ (xs ws:List Int) (k:Nat),k+xs.length=ws.length→stL ws k xs=ws.take k++xs
 | [],ws,k,h=>by
  have h:k=ws.length:=by simpa using h
  subst h
  rw [List.take_length,List.append_nil];rfl
 | x::xs,ws,k,h=>by
  have hk:k < ws.length:=by simp at h;omega
  show stL (ws.set k x) (k+1) xs=_
  rw [stL_full xs _ _ (by simp at h ⊢;omega),List.take_succ_eq_append_getElem (by simpa using hk),List.getElem_set_self,List.take_set_of_le (Nat.le_refl _)]
  simp
def layM (l:List Pr):Mem:=⟨0::(if l=[] then 0 else 2)::chW l.length 2 l 0,0::List.replicate (3*l.length+1) 1⟩
theorem lay_marks:∀ n:Nat,n < 13→rngBad (2+3*n) 1 2 (3*n)=false∧(lay1 ⟨List.replicate (2+3*n) 0,List.replicate (2+3*n) 0⟩ 1).2=0∧(lay2 ⟨List.replicate (2+3*n) 0,List.replicate (2+3*n) 0⟩ 1 2 (3*n)).2=0 ∧
  (lay2 ⟨List.replicate (2+3*n) 0,List.replicate (2+3*n) 0⟩ 1 2 (3*n)).1.words=List.replicate (2+3*n) 0∧(lay2 ⟨List.replicate (2+3*n) 0,List.replicate (2+3*n) 0⟩ 1 2 (3*n)).1.tags=0::List.replicate (3*n+1) 1 ∧
  mRight ⟨List.replicate (2+3*n) 0,List.replicate (2+3*n) 0⟩=true:=by decide +kernel
theorem layM_eq {l:List Pr} (hP:prsOk l=true):layP ⟨List.replicate (2+3*l.length) 0,List.replicate (2+3*l.length) 0⟩ 1 2 l=(layM l,0)∧mRight ⟨List.replicate (2+3*l.length) 0,List.replicate (2+3*l.length) 0⟩=true:=by
 have hp12:l.length≤12:=by
  unfold prsOk at hP
  rw [Bool.and_eq_true] at hP
  exact of_decide_eq_true hP.2
 obtain ⟨e1,e2,e3,e4,e5,e6⟩:=lay_marks l.length (by omega)
 refine ⟨?_,e6⟩
 rw [layP_fine (by rw [e6,hP];rfl) (by show rngBad (List.replicate (2+3*l.length) (0:Int)).length 1 2 (3*l.length)=false;rw [List.length_replicate];exact e1) e2 e3]
 generalize (lay2 ⟨List.replicate (2+3*l.length) 0,List.replicate (2+3*l.length) 0⟩ 1 2 (3*l.length)).1=x at *
 obtain ⟨xw,xt⟩:=x
 simp only at e4 e5
 subst e4 e5
 unfold chM layM
 have hW:=chW_len l.length 2 l 0
 show ((⟨(stL (List.replicate (2+3*l.length) 0) 2 (chW l.length 2 l 0)).set 1 (if l=[] then 0 else 2),_⟩:Mem),(0:Int))=_
 rw [stL_full _ _ _ (by rw [hW,List.length_replicate])]
 congr 2
 rw [show List.replicate (2+3*l.length) (0:Int)=0::0::List.replicate (3*l.length) 0 from by rw [show 2+3*l.length=(3*l.length+1)+1 by omega];rfl]
 rfl
theorem layM_right {l:List Pr} (hl:l.length≤12):mRight (layM l)=true:=by
 have hW:=chW_len l.length 2 l 0
 unfold layM
 generalize chW l.length 2 l 0=W at *
 unfold mRight
 simp only [List.length_cons,List.length_replicate]
 rw [decide_eq_true (by omega),decide_eq_true (by omega),decide_eq_true (by omega),List.zip_cons_cons,List.all_cons]
 simp only [Bool.true_and]
 rw [show tagOk 0 0=true by decide,Bool.true_and,List.all_eq_true]
 intro p hp
 have:=List.eq_of_mem_replicate (List.of_mem_zip hp).1
 unfold tagOk
 rw [this];rfl
theorem layM_len (l:List Pr):(layM l).words.length=2+3*l.length∧(layM l).tags.length=2+3*l.length:=by
 unfold layM
 have hW:=chW_len l.length 2 l 0
 simp only [List.length_cons,List.length_replicate]
 omega
def chT0:Bs:=[102,105,110,100,58,10,108,111,97,100,32,114,48,32,114,48,32,48,10,102,105,110,100,49,58,10,122,101,114,111,32,114,48,32,102,111,117,110,100,10,108,111,97,100,32,114,50,32,114,48,32,48,10,115,117,98,32,114,50,32,114,50,32,114,49,10,122,101,114,111,32,114,50,32,102,111,117,110,100,10,108,111,97,100,32,114,48,32,114,48,32,50,10,106,117,109,112,32,102,105,110,100,49,10,102,111,117,110,100,58,10,114,101,116,10,115,101,101,107,58,10,108,111,97,100,32,114,50,32,114,48,32,48,10,122,101,114,111,32,114,50,32,115,111,117,103,104,116,10,108,111,97,100,32,114,51,32,114,50,32,48,10,115,117,98,32,114,51,32,114,51,32,114,49,10,122,101,114,111,32,114,51,32,115,111,117,103,104,116,10,112,108,117,115,32,114,48,32,114,50,32,50,10,106,117,109,112,32,115,101,101,107,10,115,111,117,103,104,116,58,10,114,101,116,10,116,48,58,10]
def sA:Bs:=[115,101,116,32,114,48,32]
def sB:Bs:=[10,115,101,116,32,114,49,32]
def sC:Bs:=[99,97,108,108,32,102,105,110,100,10,109,97,114,107,32,54,10]
def sD:Bs:=[99,97,108,108,32,115,101,101,107,10,109,97,114,107,32,55,10]
def sE:Bs:=[115,101,116,32,114,48,32,49,10,115,101,116,32,114,49,32]
def sH:Bs:=[104,97,108,116,10]
theorem chT0_eq:ltx chC=chT0:=by decide +kernel
theorem sH_eq:ltx kH=sH:=by decide +kernel
theorem itoa_one:Lib.itoa 1=[49]:=by decide +kernel
def setS (k:Int):Bs:=sE++Lib.itoa k++[10]
theorem key_txt (k:Int):ltx (keyLn k)=((setS k++sC)++setS k)++sD:=by
 unfold keyLn
 rw [ltx_app,ltx_cons,ltx_app,ltx_cons]
 rw [show ltx kA=[115,101,116,32,114,48,32,49,10] by decide,show ltx kB=sC++[115,101,116,32,114,48,32,49,10] by decide,show ltx kC=sD by decide]
 unfold setS setK sE
 simp
theorem setS_p (k:Int):((((sA++Lib.itoa 1)++sB)++Lib.itoa k)++[10])=setS k:=by
 rw [itoa_one];rfl
def chS (ks:List Int) (k:Nat):Bs:=chT0++ltx ((ks.take k).flatMap keyLn)
theorem chS_succ (ks:List Int) {k:Nat} (h:k < ks.length):chS ks (k+1)=chS ks k++(((setS (at' ks (k:Int))++sC)++setS (at' ks (k:Int)))++sD):=by
 unfold chS
 rw [List.take_succ_eq_append_getElem h,List.flatMap_append,ltx_app,at_nat ks k h,←key_txt]
 simp
def chTx (ks:List Int):Bs:=ltx (chLn ks)
theorem chS_all (ks:List Int):chS ks ks.length++sH=chTx ks:=by
 unfold chS chTx chLn
 rw [List.take_length,ltx_app,ltx_app,chT0_eq,sH_eq,List.append_assoc]
theorem setS_len {k:Int} (h:bd k):(setS k).length≤30:=by
 have:=itoa_len h
 unfold setS
 rw [List.length_append,List.length_append]
 have:sE.length=16:=by decide
 simp only [List.length_cons,List.length_nil]
 omega
theorem chS_len (ks:List Int) (k:Nat) (h:∀ x∈ks.take k,bd x) (hl:ks.length≤1000):(chS ks k).length≤100000:=by
 unfold chS
 have:=flatL keyLn 90 (ks.take k) fun x hx=>key_len (h x hx)
 have h2:(ks.take k).length≤ks.length:=by rw [List.length_take];omega
 have:chT0.length≤1000:=by decide +kernel
 rw [List.length_append]
 omega
theorem keysOk_bd {ks:List Int} (h:keysOk ks=true):∀ k∈ks,bd k:=fun k hk=>inn_iff.1 (List.all_eq_true.1 h k hk)
def wch0 (l:List Pr) (ks:List Int) (d:Int):Wd × Int :=
 cond (keysOk ks&&prsOk l) (cond (decide (ks.length≤16)) (newW (chCode ks) (rst (chTx ks) [[116,48]]) (layM l) d) (wd0,2)) (wd0,1)
set_option maxHeartbeats 4000000 in
theorem chworld_ok (g:Gl) (l:List Pr) (ks:List Int) (d:Int) (hl:l.length≤1000000) (hk:ks.length≤20):ACalls Tryz.prog 11 [encPs l,ivs ks,iv d] (gls g) (one (.tup [encWd (wch0 l ks d).1,iv (wch0 l ks d).2]) (gls g)):=by
 have hw0:=wstr_ok false [] chT0 (by decide +kernel) (by decide +kernel)
 have hit:=fun k=>itoa_ok g k
 have hi1:=itoa_ok g 1 (by decide) (by decide)
 have hmy:=may_ok l hl
 have hS0:chS ks 0=chT0:=by unfold chS;simp [ltx]
 rw [List.nil_append,←hS0] at hw0
 unfold encPs ivs at *
 unfold bld bldH adr at hw0
 unfold gls at *
 refine jC Tryz.func11 Tryz.ntmps11 (fun w0 β0 ext hβ=>?_)
 repeat (first|refine jadB 5 1 5 1 rfl rfl rfl rfl ?_|refine jS ?_|refine jD ?_|refine jB ?_)
 refine jBb [5,6] hw0 ?_
 repeat (first|refine jS ?_|refine jD ?_|refine jB ?_)
 clear hw0
 refine jfin 7 [0,2,6,8,15,16,17,1] true rfl rfl rfl (jbl hβ) ?_
 refine jloop 7 (fun k:Nat=>k≤ks.length∧((ks.take k).all fun n=>inn n (-1000000000) 1000000000)=true) [0,2,6,8,15,16,17,1] (fun k=>[.sl (l.map encP),iv d,.ptr 4 0,.ptr 5 0,.sl (ks.map iv),.v (.int .i64 ((ks.map iv).length:Int)),.v (.int .i64 (k:Int)),.sl (ks.map iv)])
  (fun k=>[g.a,g.b,g.c,g.d,.box 33 [.sl [],.sl [],.sl [],iv 0,.sl [],.sl [],.sl []],.box 86 [.ptr 5 0,.arr 6 ((chS ks k).length+1)],.arr ((chS ks k).length+1) 5 1 ((chS ks k).map encB)]) (fun k=>ks.length-k) 0 (jbl hβ) ⟨Nat.zero_le _,rfl⟩ rfl rfl (fun k hk=>?_)
 obtain ⟨hk,hok⟩:=hk
 repeat (first|refine jS ?_|refine jD ?_|refine jB ?_)
 refine jc rfl rfl rfl (fun h=>?_) (fun h=>?_)
 ·have h:=of_decide_eq_true h
  rw [List.length_map] at h
  have hk2:k < ks.length:=by omega
  have hidx:IntKind.i64.wrap ((k:Int)+1)=((k+1:Nat):Int):=idx_next hk2 (by omega)
  have hm:=at_mem hk2
  have htk:(ks.take (k+1)).all (fun n=>inn n (-1000000000) 1000000000)=inn (at' ks (k:Int)) (-1000000000) 1000000000:=by
   rw [List.take_succ_eq_append_getElem hk2,List.all_append,hok,at_nat ks k hk2];simp
  have hno:inn (at' ks (k:Int)) (-1000000000) 1000000000=false→wch0 l ks d=(wd0,1):=fun e=>by
   unfold wch0
   rw [show keysOk ks=false from by unfold keysOk;rw [List.all_eq_false];exact ⟨_,hm,by rw [e];decide⟩];rfl
  have hsu:=chS_succ ks hk2
  have hB:=chS_len ks k (fun x hx=>inn_iff.1 (List.all_eq_true.1 hok x hx)) (by omega)
  repeat (first|refine jS ?_|refine jD ?_|refine jB ?_|refine jI (Int.natCast_nonneg k) h ?_)
  generalize at' ks (k:Int)=v at *
  by_cases c1:v < -1000000000
  ·rw [show decide (v < -1000000000)=true from decide_eq_true c1]
   rw [hno (by cases e:inn v (-1000000000) 1000000000 with
    | false=>rfl
    | true=>have:=(inn_iff.1 e).1;omega)]
   unfold encWd wCells ivs
   repeat (first|refine jS ?_|refine jD ?_|refine jB ?_)
   exact jR
  rw [show decide (v < -1000000000)=false from decide_eq_false c1]
  repeat (first|refine jS ?_|refine jD ?_|refine jB ?_)
  by_cases c2:v > 1000000000
  ·rw [show decide (v > 1000000000)=true from decide_eq_true c2]
   rw [hno (by cases e:inn v (-1000000000) 1000000000 with
    | false=>rfl
    | true=>have:=(inn_iff.1 e).2;omega)]
   unfold encWd wCells ivs
   repeat (first|refine jS ?_|refine jD ?_|refine jB ?_)
   exact jR
  rw [show decide (v > 1000000000)=false from decide_eq_false c2]
  have hbd:bd v:=⟨by omega,by omega⟩
  have hok2:(ks.take (k+1)).all (fun n=>inn n (-1000000000) 1000000000)=true:=by rw [htk];exact inn_iff.2 hbd
  clear htk hno
  have hit:=hit v (by omega) (by omega)
  have hil:=itoa_len hbd
  have hsl:=setS_len hbd
  have hsp:=setS_p v
  have hi1l:(Lib.itoa 1).length=1:=by rw [itoa_one];rfl
  have l1:sA.length=7:=by decide
  have l2:sB.length=8:=by decide
  have l3:sC.length=17:=by decide
  have l4:sD.length=17:=by decide
  generalize chS ks k=C at *
  have hw1:=wstr_ok true C (((setS v++sC)++setS v)++sD) (by simp only [List.length_append];omega) (by simp only [List.length_append];omega)
  rw [←hsu] at hw1
  unfold bld bldH adr at hw1
  repeat (first|refine jS ?_|refine jD ?_|refine jB ?_)
  refine jBb [0,1,2,3] hi1 ?_
  refine jo rfl rfl (cat_str (a:=sA) (b:=Lib.itoa 1) rfl rfl (by omega)) rfl rfl ?_
  repeat (first|refine jS ?_|refine jD ?_|refine jB ?_)
  refine jo rfl rfl (cat_str (a:=sA++Lib.itoa 1) (b:=sB) rfl rfl (by simp only [List.length_append];omega)) rfl rfl ?_
  repeat (first|refine jS ?_|refine jD ?_|refine jB ?_)
  refine jBb [0,1,2,3] hit ?_
  refine jo rfl rfl (cat_str (a:=(sA++Lib.itoa 1)++sB) (b:=Lib.itoa v) rfl rfl (by simp only [List.length_append];omega)) rfl rfl ?_
  repeat (first|refine jS ?_|refine jD ?_|refine jB ?_)
  refine jo rfl rfl (cat_str (a:=((sA++Lib.itoa 1)++sB)++Lib.itoa v) (b:=[10]) rfl rfl (by simp only [List.length_append,List.length_cons,List.length_nil];omega)) rfl rfl ?_
  rw [hsp]
  generalize setS v=SS at *
  repeat (first|refine jS ?_|refine jD ?_|refine jB ?_)
  refine jo rfl rfl (cat_str (a:=SS) (b:=sC) rfl rfl (by omega)) rfl rfl ?_
  repeat (first|refine jS ?_|refine jD ?_|refine jB ?_)
  refine jo rfl rfl (cat_str (a:=SS++sC) (b:=SS) rfl rfl (by simp only [List.length_append];omega)) rfl rfl ?_
  repeat (first|refine jS ?_|refine jD ?_|refine jB ?_)
  refine jo rfl rfl (cat_str (a:=(SS++sC)++SS) (b:=sD) rfl rfl (by simp only [List.length_append];omega)) rfl rfl ?_
  repeat (first|refine jS ?_|refine jD ?_|refine jB ?_)
  refine jBb [5,6] hw1 ?_
  repeat (first|refine jS ?_|refine jD ?_|refine jB ?_)
  refine jnext (k+1) ⟨hk2,hok2⟩ (by omega) rfl rfl rfl ?_ rfl
  rw [hidx];rfl
 ·have h:=of_decide_eq_false h
  rw [List.length_map] at h
  have:k=ks.length:=by omega
  subst this
  have hB:=chS_len ks ks.length (fun x hx=>inn_iff.1 (List.all_eq_true.1 hok x hx)) (by omega)
  rw [List.take_length] at hok
  have hkeys:keysOk ks=true:=hok
  have hall:=chS_all ks
  have hw2:=wstr_ok true (chS ks ks.length) sH (by decide) (Nat.le_trans (Nat.add_le_add hB (show sH.length≤10 by decide)) (by decide))
  rw [hall] at hw2
  generalize chS ks ks.length=C at *
  unfold bld bldH adr at hw2
  repeat (first|refine jS ?_|refine jD ?_|refine jB ?_)
  refine jBb [5,6] hw2 ?_
  have hTl:(chTx ks).length≤200000:=by
   rw [←hall]
   exact Nat.le_trans (Nat.le_of_eq (List.length_append ..)) (Nat.le_trans (Nat.add_le_add hB (show sH.length≤10 by decide)) (by decide))
  clear hw2 hall hB
  cases hP:prsOk l with
  | false =>
   have e0:wch0 l ks d=(wd0,1):=by unfold wch0;rw [hP,Bool.and_false];rfl
   rw [e0]
   rw [hP] at hmy
   unfold encWd wCells ivs
   repeat (first|refine jS ?_|refine jD ?_|refine jB ?_|refine jV hmy ?_)
   exact jR
  | true =>
   rw [hP] at hmy
   by_cases c16:ks.length≤16
   ·have e0:wch0 l ks d=newW (chCode ks) (rst (chTx ks) [[116,48]]) (layM l) d:=by unfold wch0;rw [hP,hkeys,decide_eq_true c16];rfl
    rw [e0]
    have hp12:l.length≤12:=by
     unfold prsOk at hP
     rw [Bool.and_eq_true] at hP
     exact of_decide_eq_true hP.2
    obtain ⟨ly1,ly2⟩:=layM_eq hP
    have hmr:=layM_right hp12
    have hml:=layM_len l
    have h3:=mnew_ok (2+3*l.length) (by omega) (by omega)
    have h4:=clay_ok ⟨List.replicate (2+3*l.length) 0,List.replicate (2+3*l.length) 0⟩ 1 2 l (by simp;omega) (by simp;omega) hl
    rw [ly1] at h4
    have hpr:=ch_parse ks (keysOk_bd hkeys) (by omega)
    have hwh:=ch_where ks (keysOk_bd hkeys) (by omega)
    rw [show ltx (chLn ks)=chTx ks from rfl] at hpr hwh
    have hp0:(rparse (chTx ks)).2.2=0:=by rw [hpr]
    obtain ⟨z1,z2⟩:=rst_eq hp0 [[116,48]]
    have hne:chTx ks≠[]:=by
     intro e
     rw [e] at hwh
     exact absurd hwh (by decide +kernel)
    have h5:=snew_ok g (chTx ks) [[116,48]] (layM l) d (by have:=ch_len ks (keysOk_bd hkeys) (by omega);show (ltx (chLn ks)).length≤_;omega) (by decide) (by omega) (by rw [parse_eq];exact hp0) (by intro x hx;simp at hx;subst hx;rw [hwh]) (by rw [parse_eq,hpr];have:=parse_right hp0;unfold rightC at this;rw [hpr,Bool.and_eq_true] at this;have:=of_decide_eq_true this.1;simp only at this ⊢;omega)
    rw [parse_eq,hpr,z1] at h5
    simp only at h5
    have hs:=str_ok true (chTx ks) hne (by omega)
    have hn:IntKind.i64.wrap (2+IntKind.i64.wrap (3*(((l.map encP).length:Nat):Int)))=((2+3*l.length:Nat):Int):=by
     rw [List.length_map,wrap_id (n:=3*(l.length:Int)) (by omega) (by omega),wrap_id (by omega) (by omega)];omega
    clear hwh hpr hp0 z1 z2 ly1 ly2 e0
    generalize newW (chCode ks) (rst (chTx ks) [[116,48]]) (layM l) d=r at *
    generalize layM l=M at *
    generalize chTx ks=T at *
    unfold gls at h5
    unfold encWd wCells encMem mCells ivs at h5
    unfold encMem mCells ivs at h3 h4
    unfold encPs at h4
    unfold encWd wCells ivs
    unfold bld bldH adr at hs
    have h5:=h5.argw (args':=[sv T,.slf [sv [116,48]],.agg [.sl (M.words.map iv),.sl (M.tags.map iv)],iv d]) (fun c us h=>relL_cons (fun u h=>h) (relL_cons (fun u h=>sl_weak h) (fun us h=>h)) us h)
    repeat (first|refine jS ?_|refine jD ?_|refine jB ?_|refine jV hmy ?_)
    rw [show decide ((((ks.map iv).length:Nat):Int) > 16)=false from decide_eq_false (by rw [List.length_map];omega)]
    repeat (first|refine jS ?_|refine jD ?_|refine jB ?_)
    rw [hn]
    repeat (first|refine jS ?_|refine jB ?_|refine jV h3 ?_|refine jV h4 ?_)
    refine jdrawPT [(2,.r),(0,.x),(1,.p),(3,.p),(4,.m),(5,.p),(6,.p),(7,.m),(8,.p)] rfl (by kernel_rfl) ?_
    repeat (first|refine jS ?_|refine jD ?_|refine jB ?_)
    refine jbx [5,6] hs rfl rfl rfl ⟨rfl,rfl,rfl,rfl,rfl,rfl⟩ rfl rfl (by repeat (first|exact trivial|refine ⟨rfl,?_⟩)) rfl rfl ?_
    repeat (first|refine jS ?_|refine jD ?_|refine jB ?_)
    refine jBb [0,1,2,3] h5 ?_
    repeat (first|refine jS ?_|refine jD ?_|refine jB ?_)
    exact jR
   ·have e0:wch0 l ks d=(wd0,2):=by unfold wch0;rw [hP,hkeys,decide_eq_false c16];rfl
    rw [e0]
    unfold encWd wCells ivs
    repeat (first|refine jS ?_|refine jD ?_|refine jB ?_|refine jV hmy ?_)
    rw [show decide ((((ks.map iv).length:Nat):Int) > 16)=true from decide_eq_true (by rw [List.length_map];omega)]
    repeat (first|refine jS ?_|refine jD ?_|refine jB ?_)
    exact jR
end Go.AL
end
section
set_option maxRecDepth 100000
namespace Go.AL
open Go Go.Proofs
attribute [local irreducible] J
def chO (l:List Pr) (ks:List Int) (d:Int):Wd:=newOk (chCode ks) (rst (chTx ks) [[116,48]]) (layM l) d
theorem prs12 {l:List Pr} (hP:prsOk l=true):l.length≤12:=by
 unfold prsOk at hP
 rw [Bool.and_eq_true] at hP
 exact of_decide_eq_true hP.2
theorem ch_p0 {ks:List Int} (hK:keysOk ks=true) (hk:ks.length≤20):rparse (chTx ks)=(chCode ks,0,0):=ch_parse ks (keysOk_bd hK) hk
theorem wch0_good {l:List Pr} {ks:List Int} {d:Int} (hP:prsOk l=true) (hK:keysOk ks=true) (h16:ks.length≤16) (hd:inn d 0 8=true):wch0 l ks d=(chO l ks d,0)∧WdR (chO l ks d):=by
 have hpr:=ch_p0 hK (by omega)
 have hp0:(rparse (chTx ks)).2.2=0:=by rw [hpr]
 have h1:=newW_good hp0 [[116,48]] (layM l) d (layM_right (prs12 hP)) (by decide) hd
 have h2:=newOk_r hp0 [[116,48]] (layM l) d (layM_right (prs12 hP)) (by decide) hd
 rw [hpr] at h1 h2
 exact ⟨by unfold wch0;rw [hP,hK,decide_eq_true h16];exact h1,h2⟩
theorem wch0_depth {l:List Pr} {ks:List Int} {d:Int} (hP:prsOk l=true) (hK:keysOk ks=true) (h16:ks.length≤16) (hd:inn d 0 8=false):wch0 l ks d=(wd0,2):=by
 have hpr:=ch_p0 hK (by omega)
 have hp0:(rparse (chTx ks)).2.2=0:=by rw [hpr]
 have h1:=newW_size hp0 (rst (chTx ks) [[116,48]]) (layM l) d (layM_right (prs12 hP)) (by rw [hd,Bool.and_false])
 rw [hpr] at h1
 unfold wch0;rw [hP,hK,decide_eq_true h16];exact h1
theorem al_prs:prsOk [(5,0),(7,0)]=true:=by decide +kernel
theorem al_runs:(roundsW (chO [(5,0),(7,0)] [7] 0) 100).1.evs.length=2∧g0 (at' (roundsW (chO [(5,0),(7,0)] [7] 0) 100).1.evs (0:Int)).words 0=5∧g0 (at' (roundsW (chO [(5,0),(7,0)] [7] 0) 100).1.evs (1:Int)).words 0=4:=by decide +kernel
theorem chalive_ok (g:Gl):ACalls Tryz.prog 12 [] (gls g) (one (bv true) (gls g)):=by
 obtain ⟨e1,e2⟩:=wch0_good (l:=[(5,0),(7,0)]) (ks:=[7]) (d:=0) al_prs (by decide) (by decide) (by decide)
 have h1:=chworld_ok g [(5,0),(7,0)] [7] 0 (by decide) (by decide)
 rw [e1] at h1
 have h2:=rounds_ok (chO [(5,0),(7,0)] [7] 0) 100 e2 (by decide) (by decide)
 obtain ⟨r1,r2,r3⟩:=al_runs
 generalize (roundsW (chO [(5,0),(7,0)] [7] 0) 100).2=n at *
 generalize (roundsW (chO [(5,0),(7,0)] [7] 0) 100).1=w at *
 generalize chO [(5,0),(7,0)] [7] 0=w0 at *
 clear e1 e2
 have hl:((((w.evs.map encEvt).length:Nat):Int) == 2)=true:=by rw [List.length_map,r1];rfl
 have h0:(0:Int) < w.evs.length:=by omega
 have h01:(1:Int) < w.evs.length:=by omega
 unfold gls at *
 unfold encWd wCells ivs at *
 have h1:=h1.argw (args':=[.slf [.agg [iv 5,iv 0],.agg [iv 7,iv 0]],.slf [iv 7],iv 0]) (fun c us h=>relL_cons (fun u h=>sl_weak h) (relL_cons (fun u h=>sl_weak h) (fun us h=>h)) us h)
 refine jC Tryz.func12 Tryz.ntmps12 (fun w0 β0 ext hβ=>?_)
 repeat (first|refine jS ?_|refine jD ?_|refine jB ?_)
 refine jBb [0,1,2,3] h1 ?_
 repeat (first|refine jS ?_|refine jD ?_|refine jB ?_|refine jV h2 ?_)
 rw [hl]
 repeat (first|refine jS ?_|refine jD ?_|refine jB ?_|refine jI (Int.le_refl 0) h0 ?_)
 refine jo rfl rfl (index_pp rfl rfl rfl rfl rfl (by decide) (by decide)) rfl rfl ?_
 repeat (first|refine jS ?_|refine jD ?_|refine jB ?_)
 rw [r2]
 have i01:(0:Int)≤1:=by decide
 repeat (first|refine jS ?_|refine jD ?_|refine jB ?_|refine jI i01 h01 ?_)
 refine jo rfl rfl (index_pp rfl rfl rfl rfl rfl (by decide) (by decide)) rfl rfl ?_
 repeat (first|refine jS ?_|refine jD ?_|refine jB ?_)
 rw [r3]
 repeat (first|refine jS ?_|refine jD ?_|refine jB ?_)
 exact jR
end Go.AL
end
section
set_option maxRecDepth 100000
namespace Go.AL
open Go Go.Proofs
attribute [local irreducible] J
end Go.AL
end
section
set_option maxRecDepth 100000
namespace Go.AL
open Go Go.Proofs
attribute [local irreducible] J
theorem g0_q (l:List Int) (q:Nat):g0 l q=(l[q]?).getD 0:=by unfold g0;exact List.getD_eq_getElem?_getD ..
theorem at_q (l:List Int) (q:Nat):at' l (q:Int)=(l[q]?).getD 0:=by unfold at';exact List.getD_eq_getElem?_getD ..
end Go.AL
end
section
set_option maxRecDepth 100000
namespace Go.AL
open Go Go.Proofs
def chainI:List Ins:=[⟨16,0,0,0⟩,⟨11,0,7,0⟩,⟨16,2,0,0⟩,⟨6,2,2,1⟩,⟨11,2,7,0⟩,⟨16,0,0,2⟩,⟨10,1,0,0⟩,⟨14,0,0,0⟩,⟨16,2,0,0⟩,⟨11,2,15,0⟩,⟨16,3,2,0⟩,⟨6,3,3,1⟩,⟨11,3,15,0⟩,⟨3,0,2,2⟩,⟨10,8,0,0⟩,⟨14,0,0,0⟩]
def keyI (k:Int):List Ins:=[⟨1,0,1,0⟩,⟨1,1,k,0⟩,⟨13,0,0,0⟩,⟨26,6,0,0⟩,⟨1,0,1,0⟩,⟨1,1,k,0⟩,⟨13,8,0,0⟩,⟨26,7,0,0⟩]
theorem chainI_eq:(blk chTg chC).filterMap (·.2)=chainI:=by kernel_rfl
theorem keyIt_code (k:Int):(keyIt k).filterMap (·.2)=keyI k:=by
 unfold keyIt
 have hc:∀ (a:Bs) (i:Ins) (x:List (Bs × Option Ins)),((a,some i)::x).filterMap (·.2)=i::x.filterMap (·.2):=fun a i x=>rfl
 rw [List.filterMap_append,hc,List.filterMap_append,hc]
 rw [show (blk chTg kA).filterMap (·.2)=[⟨1,0,1,0⟩] by kernel_rfl,show (blk chTg kB).filterMap (·.2)=[⟨13,0,0,0⟩,⟨26,6,0,0⟩,⟨1,0,1,0⟩] by kernel_rfl,show (blk chTg kC).filterMap (·.2)=[⟨13,8,0,0⟩,⟨26,7,0,0⟩] by kernel_rfl]
 rfl
theorem chCode_eq (ks:List Int):chCode ks=chainI++(ks.flatMap keyI++[⟨0,0,0,0⟩]):=by
 unfold chCode chIt
 rw [List.filterMap_append,List.filterMap_append,chainI_eq,show (blk chTg kH).filterMap (·.2)=[⟨0,0,0,0⟩] by kernel_rfl]
 congr 2
 induction ks with
 | nil=>rfl
 | cons x xs ih=>rw [List.flatMap_cons,List.filterMap_append,keyIt_code,ih,List.flatMap_cons]
theorem keys_len (ks:List Int):(ks.flatMap keyI).length=8*ks.length:=by
 induction ks with
 | nil=>rfl
 | cons x xs ih=>rw [List.flatMap_cons,List.length_append,ih,List.length_cons];show 8+_=_;omega
theorem keys_at:∀ (ks:List Int) (i o:Nat) (h:i < ks.length),o < 8→(ks.flatMap keyI)[8*i+o]? = (keyI ks[i])[o]?
 | [],i,o,h,_=>by simp at h
 | x::xs,0,o,h,ho=>by rw [List.flatMap_cons,Nat.mul_zero,Nat.zero_add,List.getElem?_append_left (by exact ho)];rfl
 | x::xs,i+1,o,h,ho=>by
  rw [List.flatMap_cons,List.getElem?_append_right (by show 8≤_;omega),show 8*(i+1)+o-(keyI x).length=8*i+o by show _-8=_;omega]
  exact keys_at xs i o (by simpa using h) ho
theorem ch_lib (ks:List Int) {x:Nat} (hx:x < 16):(chCode ks)[x]? = chainI[x]?:=by rw [chCode_eq,List.getElem?_append_left (by exact hx)]
theorem ch_key (ks:List Int) {i o:Nat} (h:i < ks.length) (ho:o < 8):(chCode ks)[16+8*i+o]? = (keyI ks[i])[o]?:=by
 rw [chCode_eq,List.getElem?_append_right (by show 16≤_;omega),show 16+8*i+o-chainI.length=8*i+o by show _-16=_;omega,List.getElem?_append_left (by rw [keys_len];omega),keys_at ks i o h ho]
theorem ch_end (ks:List Int):(chCode ks)[16+8*ks.length]? = some ⟨0,0,0,0⟩:=by
 rw [chCode_eq,List.getElem?_append_right (by show 16≤_;omega),show 16+8*ks.length-chainI.length=8*ks.length by show _-16=_;omega,List.getElem?_append_right (by rw [keys_len];omega),keys_len,Nat.sub_self];rfl
def oneW (code:List Ins) (m:Mem) (d:Int) (t:Thr) (e:List Evt):Wd:=⟨code,⟨m,d,[[]]⟩,[t],e⟩
def Rch (code:List Ins) (m:Mem) (d:Int) (n:Nat) (t:Thr) (e:List Evt) (t':Thr) (e':List Evt):Prop:=WdR (oneW code m d t e)→WdR (oneW code m d t' e')∧∀ q,(roundsW (oneW code m d t e) (n+q)).1=(roundsW (oneW code m d t' e') q).1
section
variable {code:List Ins} {m:Mem} {d:Int} {t t' t'':Thr} {e e' e'':List Evt} {n n':Nat}
theorem Rch.refl (t:Thr) (e:List Evt):Rch code m d 0 t e t e:=fun h=>⟨h,fun q=>by rw [Nat.zero_add]⟩
theorem Rch.trans (h1:Rch code m d n t e t' e') (h2:Rch code m d n' t' e' t'' e''):Rch code m d (n+n') t e t'' e'':=fun h=>by
 obtain ⟨a,b⟩:=h1 h
 obtain ⟨c,f⟩:=h2 a
 exact ⟨c,fun q=>by rw [Nat.add_assoc,b,f]⟩
theorem Rch.step (hd:WdR (oneW code m d t e)→canW (oneW code m d t e) 0=true∧doW (oneW code m d t e) 0=oneW code m d t' e'):Rch code m d 1 t e t' e':=fun h=>by
 obtain ⟨hc,hd⟩:=hd h
 have h1:=(doW_right h (k:=0) (by decide:0 < 1) hc).1
 rw [hd] at h1
 refine ⟨h1,fun q=>?_⟩
 rw [Nat.add_comm]
 have hi:idleW (oneW code m d t e)=false:=by
  cases hi:idleW (oneW code m d t e) with
  | false=>rfl
  | true =>
   have:=idle_iff.1 hi 0 (by decide:0 < 1)
   rw [hc] at this;cases this
 have hr:roundW (oneW code m d t e)=oneW code m d t' e':=by
  show (actW (actW (oneW code m d t e) ⟨0,((0:Nat):Int)⟩).1 ⟨1,((0:Nat):Int)⟩).1=_
  rw [act0_eq h (by decide:0 < 1),hc,hd]
  show (actW (oneW code m d t' e') ⟨1,((0:Nat):Int)⟩).1=_
  rw [act1_eq h1 (by decide:0 < 1)]
  rfl
 show (roundsW (oneW code m d t e) (q+1)).1=_
 unfold roundsW
 rw [hi,hr]
 cases q<;>rfl
def thT (p:Nat) (a b c f:Int) (fs:List Frm):Thr:=⟨p,[a,b,c,f,0,0,0,0],fs,0,0,[]⟩
section
variable {p:Nat} {a b c f:Int} {fs:List Frm} {i:Ins}
theorem atk (h:WdR (oneW code m d (thT p a b c f fs) e)) (hi:code[p]? = some i):instrAt (oneW code m d (thT p a b c f fs) e) (thrAt (oneW code m d (thT p a b c f fs) e) 0)=i∧(thrAt (oneW code m d (thT p a b c f fs) e) 0).pc≠1000:=by
 refine ⟨instr_of (p:=p) rfl hi,?_⟩
 have:=(List.getElem?_eq_some_iff.1 hi).1
 have:=h.cl
 have:code.length≤1000:=this
 show ((p:Nat):Int)≠1000
 omega
theorem can_of (h:WdR (oneW code m d (thT p a b c f fs) e)) (hi:code[p]? = some i) (hc:canOp (oneW code m d (thT p a b c f fs) e) 0 (thT p a b c f fs) i=true):canW (oneW code m d (thT p a b c f fs) e) 0=true:=by
 unfold canW
 rw [(atk h hi).1]
 exact hc
theorem r_lo (hi:code[p]? = some i) (hop:inn i.op 1 15=true) (hm:loMay i=true) (hn:doN (oneW code m d (thT p a b c f fs) e) 0 (thT p a b c f fs) i=(oneW code m d (thT p a b c f fs) e,(loApply 0 i (thT p a b c f fs)).1,(loApply 0 i (thT p a b c f fs)).2)) (h13:i.op≠13) (h14:i.op≠14)
  (hc:canOp (oneW code m d (thT p a b c f fs) e) 0 (thT p a b c f fs) i=true) (ht:loDo 0 i (pc1 (thT p a b c f fs))=t'):Rch code m d 1 (thT p a b c f fs) e t' e :=
 Rch.step fun h=>by
  obtain ⟨h1,h2⟩:=atk h hi
  refine ⟨can_of h hi hc,?_⟩
  rw [do_lo h (by decide:0 < 1) h1 rfl rfl h2 hop hm hn h13 h14]
  show setT _ 0 (loDo 0 i (pc1 (thT p a b c f fs)))=_
  rw [ht];rfl
theorem r_call {to:Nat} (hto:to≤1000) (hi:code[p]? = some ⟨13,to,0,0⟩) (hf:fs.length < 6):Rch code m d 1 (thT p a b c f fs) e (thT to a b c f (fs++[⟨(p:Int)+1,[0,0,0,0]⟩])) e :=
 Rch.step fun h=>by
  obtain ⟨h1,h2⟩:=atk h hi
  refine ⟨can_of h hi rfl,?_⟩
  have hm:loMay ⟨13,(to:Int),0,0⟩=true:=by
   show (true&&(false||inn (to:Int) 0 1000))=true
   rw [inn_iff.2 ⟨by omega,by omega⟩];rfl
  rw [do_call h (by decide:0 < 1) h1 rfl rfl h2 rfl hm rfl ⟨by show (0:Int)≤to;omega,by show ((to:Nat):Int)≤1000;omega⟩ hf]
  rfl
theorem r_ret {back:Nat} (hi:code[p]? = some ⟨14,0,0,0⟩):Rch code m d 1 (thT p a b c f (fs++[⟨(back:Int),[0,0,0,0]⟩])) e (thT back a b c f fs) e :=
 Rch.step fun h=>by
  obtain ⟨h1,h2⟩:=atk h hi
  refine ⟨can_of h hi rfl,?_⟩
  rw [do_ret h (by decide:0 < 1) h1 rfl rfl h2 rfl rfl rfl (fs:=fs) rfl]
  rfl
theorem r_mark {kd:Int} (hi:code[p]? = some ⟨26,kd,0,0⟩):Rch code m d 1 (thT p a b c f fs) e (thT (p+1) a b c f fs) (e++[⟨kd,0,[a,b,c,f]⟩]) :=
 Rch.step fun h=>by
  obtain ⟨h1,h2⟩:=atk h hi
  refine ⟨can_of h hi rfl,?_⟩
  rw [do_of h1 (w1:={ oneW code m d (thT p a b c f fs) e with evs:=e++[⟨kd,0,[a,b,c,f]⟩] }) (t1:=pc1 (thT p a b c f fs)) rfl]
  rfl
theorem r_halt (hi:code[p]? = some ⟨0,0,0,0⟩):Rch code m d 1 (thT p a b c f fs) e { thT p a b c f fs with state:=1 } e :=
 Rch.step fun h=>by
  obtain ⟨h1,h2⟩:=atk h hi
  refine ⟨can_of h hi rfl,?_⟩
  rw [do_of h1 (w1:=oneW code m d (thT p a b c f fs) e) (t1:={ thT p a b c f fs with state:=1 }) rfl]
  rfl
theorem r_load {r q:Int} {x:Nat} {o v:Int} (hi:code[p]? = some ⟨16,r,q,o⟩) (hx:IntKind.i64.wrap (rg (thT p a b c f fs) q+o)=(x:Int)) (hl:mLoad m (x:Int)=(v,0)) (ht:setR (pc1 (thT p a b c f fs)) r v=t'):Rch code m d 1 (thT p a b c f fs) e t' e :=
 Rch.step fun h=>by
  obtain ⟨h1,h2⟩:=atk h hi
  refine ⟨can_of h hi rfl,?_⟩
  have hld:tsLoad ⟨m,d,[[]]⟩ 0 (IntKind.i64.wrap (rg (thT p a b c f fs) q+o))=(v,0):=by
   unfold tsLoad
   rw [hx,hl];rfl
  rw [do_of h1 (w1:=oneW code m d (thT p a b c f fs) e) (t1:=t') (by
   show (oneW code m d (thT p a b c f fs) e,setR (pc1 (thT p a b c f fs)) r (tsLoad ⟨m,d,[[]]⟩ 0 (IntKind.i64.wrap (rg (thT p a b c f fs) q+o))).1,(tsLoad ⟨m,d,[[]]⟩ 0 (IntKind.i64.wrap (rg (thT p a b c f fs) q+o))).2)=_
   rw [hld,ht])]
  rfl
end
end
end Go.AL
end
section
set_option maxRecDepth 100000
namespace Go.AL
open Go Go.Proofs
def i64r (z:Int):Prop:=-9223372036854775808≤z∧z≤9223372036854775807
theorem wrap_sub {z k:Int} (hz:i64r z) (hk:bd k):IntKind.i64.wrap (z-k)=0↔z=k:=by
 have e:IntKind.i64.wrap (z-k)=if (z-k) % 18446744073709551616≥9223372036854775808 then (z-k) % 18446744073709551616-18446744073709551616 else (z-k) % 18446744073709551616:=by
  unfold IntKind.wrap
  simp [IntKind.bits,IntKind.signed]
 rw [e]
 unfold i64r at hz
 unfold bd at hk
 split<;>omega
def nd (n q:Nat):Nat:=if q < n then 2+3*q else 0
def fq (l:List Pr) (k:Int):Nat→Nat→Nat
 | 0,q=>0
 | m+1,q=>if (at' l (q:Int)).1=k then 2+3*q else fq l k m (q+1)
def sq (l:List Pr) (k:Int):Nat→Nat→Nat
 | 0,q=>1+3*q
 | m+1,q=>if (at' l (q:Int)).1=k then 1+3*q else sq l k m (q+1)
theorem lay_len (l:List Pr):(layM l).words.length=2+3*l.length:=(layM_len l).1
theorem lay_load (l:List Pr) {x:Nat} (h1:1≤x) (h2:x < 2+3*l.length):mLoad (layM l) (x:Int)=(g0 (layM l).words x,0):=by
 have hu:mUse (layM l) (x:Int)=0:=use_live (by rw [lay_len];exact h2) (by
  show g0 (0::List.replicate (3*l.length+1) 1) x=1
  rw [g0_q]
  cases x with
  | zero=>omega
  | succ x=>rw [List.getElem?_cons_succ,List.getElem?_replicate,if_pos (by omega)];rfl)
 unfold mLoad
 rw [decide_eq_true hu,show ((x:Nat):Int).toNat=x by omega];rfl
theorem lay_head (l:List Pr):mLoad (layM l) ((1:Nat):Int)=(((nd l.length 0:Nat):Int),0):=by
 rw [lay_load l (Nat.le_refl _) (by omega)]
 show ((if l=[] then (0:Int) else 2),(0:Int))=_
 unfold nd
 by_cases e:l=[]
 ·rw [if_pos e,if_neg (by rw [e];decide)];rfl
 ·rw [if_neg e,if_pos (List.length_pos_iff.2 e)];rfl
theorem lay_node (l:List Pr) {q j:Nat} (hq:q < l.length) (hj:j < 3):mLoad (layM l) ((2+3*q+j:Nat):Int)=(at' [(at' l (q:Int)).1,(at' l (q:Int)).2,chNx l.length 2 q] (j:Int),0):=by
 rw [lay_load l (by omega) (by omega),←chW_at l.length 2 l hq j hj,at_q,g0_q]
 show ((((0:Int)::(if l=[] then 0 else 2)::chW l.length 2 l 0)[2+3*q+j]?).getD 0,(0:Int))=_
 rw [show 2+3*q+j=(3*q+j)+1+1 by omega,List.getElem?_cons_succ,List.getElem?_cons_succ]
theorem nx_nd {n q:Nat} (h:q < n):chNx n 2 q=((nd n (q+1):Nat):Int):=by
 unfold chNx nd
 by_cases e:q+1=n
 ·rw [if_pos e,if_neg (by omega)];rfl
 ·rw [if_neg e,if_pos (by omega)];omega
section
variable {ks:List Int} {l:List Pr} {d:Int} {e:List Evt} {fs:List Frm} {k:Int}
theorem li {x:Nat} {i:Ins} (hx:x < 16) (hi:chainI[x]? = some i):(chCode ks)[x]? = some i:=(ch_lib ks hx).trans hi
theorem ld0 {n q o:Nat} (hn:n≤1000) (ho:o≤10) (hq:q < n):IntKind.i64.wrap (((nd n q:Nat):Int)+(o:Int))=((2+3*q+o:Nat):Int):=by
 unfold nd
 rw [if_pos hq,wrap_id (by omega) (by omega)];omega
theorem find_go (hl:l.length≤12) (hr:∀ p∈l,i64r p.1) (hk:bd k):∀ (m q:Nat),q+m=l.length→∀ c f,∃ N c',N≤6*m+1∧Rch (chCode ks) (layM l) d N (thT 1 (nd l.length q:Nat) k c f fs) e (thT 7 (fq l k m q:Nat) k c' f fs) e
 | 0,q,hq,c,f=>by
  have:nd l.length q=0:=by unfold nd;rw [if_neg (by omega)]
  rw [this]
  exact ⟨1,c,Nat.le_refl _,r_lo (li (x:=1) (by decide) rfl) rfl rfl rfl (by decide) (by decide) rfl rfl⟩
 | m+1,q,hq,c,f=>by
  have hql:q < l.length:=by omega
  have hnz:nd l.length q=2+3*q:=by unfold nd;rw [if_pos hql]
  have hz:=hr _ (show at' l (q:Int)∈l from at_mem hql)
  have s1:Rch (chCode ks) (layM l) d 1 (thT 1 (nd l.length q:Nat) k c f fs) e (thT 2 (nd l.length q:Nat) k c f fs) e:=r_lo (li (x:=1) (by decide) rfl) rfl rfl rfl (by decide) (by decide) rfl (by
   show cond (decide (((nd l.length q:Nat):Int)=0)) _ _=_
   rw [decide_eq_false (by omega)];rfl)
  have s2:Rch (chCode ks) (layM l) d 1 (thT 2 (nd l.length q:Nat) k c f fs) e (thT 3 (nd l.length q:Nat) k (at' l (q:Int)).1 f fs) e:=r_load (x:=2+3*q+0) (li (x:=2) (by decide) rfl) (ld0 (o:=0) (by omega) (by decide) hql) (lay_node l hql (j:=0) (by decide)) rfl
  have s3:Rch (chCode ks) (layM l) d 1 (thT 3 (nd l.length q:Nat) k (at' l (q:Int)).1 f fs) e (thT 4 (nd l.length q:Nat) k (IntKind.i64.wrap ((at' l (q:Int)).1-k)) f fs) e:=r_lo (li (x:=3) (by decide) rfl) rfl rfl rfl (by decide) (by decide) rfl rfl
  have s123:=(s1.trans s2).trans s3
  by_cases hf:(at' l (q:Int)).1=k
  ·refine ⟨4,IntKind.i64.wrap ((at' l (q:Int)).1-k),by omega,?_⟩
   have e1:fq l k (m+1) q=nd l.length q:=by unfold fq;rw [if_pos hf,hnz]
   rw [e1]
   exact s123.trans (r_lo (li (x:=4) (by decide) rfl) rfl rfl rfl (by decide) (by decide) rfl (by
    show cond (decide (IntKind.i64.wrap ((at' l (q:Int)).1-k)=0)) _ _=_
    rw [decide_eq_true ((wrap_sub hz hk).2 hf)];rfl))
  ·have s4:Rch (chCode ks) (layM l) d 1 (thT 4 (nd l.length q:Nat) k (IntKind.i64.wrap ((at' l (q:Int)).1-k)) f fs) e (thT 5 (nd l.length q:Nat) k (IntKind.i64.wrap ((at' l (q:Int)).1-k)) f fs) e:=r_lo (li (x:=4) (by decide) rfl) rfl rfl rfl (by decide) (by decide) rfl (by
    show cond (decide (IntKind.i64.wrap ((at' l (q:Int)).1-k)=0)) _ _=_
    rw [decide_eq_false fun e=>hf ((wrap_sub hz hk).1 e)];rfl)
   have s5:Rch (chCode ks) (layM l) d 1 (thT 5 (nd l.length q:Nat) k (IntKind.i64.wrap ((at' l (q:Int)).1-k)) f fs) e (thT 6 (nd l.length (q+1):Nat) k (IntKind.i64.wrap ((at' l (q:Int)).1-k)) f fs) e :=
    r_load (x:=2+3*q+2) (li (x:=5) (by decide) rfl) (ld0 (o:=2) (by omega) (by decide) hql) ((lay_node l hql (j:=2) (by decide)).trans (by show (chNx l.length 2 q,(0:Int))=_;rw [nx_nd hql])) rfl
   have s6:Rch (chCode ks) (layM l) d 1 (thT 6 (nd l.length (q+1):Nat) k (IntKind.i64.wrap ((at' l (q:Int)).1-k)) f fs) e (thT 1 (nd l.length (q+1):Nat) k (IntKind.i64.wrap ((at' l (q:Int)).1-k)) f fs) e:=r_lo (li (x:=6) (by decide) rfl) rfl rfl rfl (by decide) (by decide) rfl rfl
   obtain ⟨N,c',h1,h2⟩:=find_go hl hr hk m (q+1) (by omega) (IntKind.i64.wrap ((at' l (q:Int)).1-k)) f
   refine ⟨1+1+1+1+1+1+N,c',by omega,?_⟩
   have e1:fq l k (m+1) q=fq l k m (q+1):=by rw [fq,if_neg hf]
   rw [e1]
   exact ((((s123.trans s4).trans s5).trans s6).trans h2)
theorem link_load {q:Nat} (hq:q≤l.length):mLoad (layM l) ((1+3*q:Nat):Int)=(((nd l.length q:Nat):Int),0):=by
 cases q with
 | zero=>exact lay_head l
 | succ q =>
  have:=lay_node l (q:=q) (j:=2) (by omega) (by decide)
  rw [show 1+3*(q+1)=2+3*q+2 by omega,this]
  show (chNx l.length 2 q,(0:Int))=_
  rw [nx_nd (by omega)]
theorem seek_go (hl:l.length≤12) (hr:∀ p∈l,i64r p.1) (hk:bd k):∀ (m q:Nat),q+m=l.length→∀ c f,∃ N c' f',N≤7*m+2∧Rch (chCode ks) (layM l) d N (thT 8 ((1+3*q:Nat):Int) k c f fs) e (thT 15 (sq l k m q:Nat) k c' f' fs) e
 | m,q,hq,c,f=>by
  have s1:Rch (chCode ks) (layM l) d 1 (thT 8 ((1+3*q:Nat):Int) k c f fs) e (thT 9 ((1+3*q:Nat):Int) k (nd l.length q:Nat) f fs) e:=r_load (x:=1+3*q) (li (x:=8) (by decide) rfl) (by show IntKind.i64.wrap (((1+3*q:Nat):Int)+0)=_;rw [wrap_id (by omega) (by omega)];omega) (link_load (by omega)) rfl
  cases m with
  | zero =>
   have:nd l.length q=0:=by unfold nd;rw [if_neg (by omega)]
   rw [this] at s1
   refine ⟨2,((0:Nat):Int),f,by omega,?_⟩
   exact s1.trans (r_lo (li (x:=9) (by decide) rfl) rfl rfl rfl (by decide) (by decide) rfl rfl)
  | succ m =>
   have hql:q < l.length:=by omega
   have hnz:nd l.length q=2+3*q:=by unfold nd;rw [if_pos hql]
   have hz:=hr _ (show at' l (q:Int)∈l from at_mem hql)
   have s2:Rch (chCode ks) (layM l) d 1 (thT 9 ((1+3*q:Nat):Int) k (nd l.length q:Nat) f fs) e (thT 10 ((1+3*q:Nat):Int) k (nd l.length q:Nat) f fs) e:=r_lo (li (x:=9) (by decide) rfl) rfl rfl rfl (by decide) (by decide) rfl (by
    show cond (decide (((nd l.length q:Nat):Int)=0)) _ _=_
    rw [decide_eq_false (by omega)];rfl)
   have s3:Rch (chCode ks) (layM l) d 1 (thT 10 ((1+3*q:Nat):Int) k (nd l.length q:Nat) f fs) e (thT 11 ((1+3*q:Nat):Int) k (nd l.length q:Nat) (at' l (q:Int)).1 fs) e:=r_load (x:=2+3*q+0) (li (x:=10) (by decide) rfl) (ld0 (o:=0) (by omega) (by decide) hql) (lay_node l hql (j:=0) (by decide)) rfl
   have s4:Rch (chCode ks) (layM l) d 1 (thT 11 ((1+3*q:Nat):Int) k (nd l.length q:Nat) (at' l (q:Int)).1 fs) e (thT 12 ((1+3*q:Nat):Int) k (nd l.length q:Nat) (IntKind.i64.wrap ((at' l (q:Int)).1-k)) fs) e:=r_lo (li (x:=11) (by decide) rfl) rfl rfl rfl (by decide) (by decide) rfl rfl
   have s14:=((s1.trans s2).trans s3).trans s4
   by_cases hf:(at' l (q:Int)).1=k
   ·refine ⟨5,(nd l.length q:Nat),IntKind.i64.wrap ((at' l (q:Int)).1-k),by omega,?_⟩
    have e1:sq l k (m+1) q=1+3*q:=by unfold sq;rw [if_pos hf]
    rw [e1]
    exact s14.trans (r_lo (li (x:=12) (by decide) rfl) rfl rfl rfl (by decide) (by decide) rfl (by
     show cond (decide (IntKind.i64.wrap ((at' l (q:Int)).1-k)=0)) _ _=_
     rw [decide_eq_true ((wrap_sub hz hk).2 hf)];rfl))
   ·have s5:Rch (chCode ks) (layM l) d 1 (thT 12 ((1+3*q:Nat):Int) k (nd l.length q:Nat) (IntKind.i64.wrap ((at' l (q:Int)).1-k)) fs) e (thT 13 ((1+3*q:Nat):Int) k (nd l.length q:Nat) (IntKind.i64.wrap ((at' l (q:Int)).1-k)) fs) e:=r_lo (li (x:=12) (by decide) rfl) rfl rfl rfl (by decide) (by decide) rfl (by
     show cond (decide (IntKind.i64.wrap ((at' l (q:Int)).1-k)=0)) _ _=_
     rw [decide_eq_false fun e=>hf ((wrap_sub hz hk).1 e)];rfl)
    have hnx:IntKind.i64.wrap (((nd l.length q:Nat):Int)+2)=((1+3*(q+1):Nat):Int):=by rw [hnz,wrap_id (by omega) (by omega)];omega
    have s6:Rch (chCode ks) (layM l) d 1 (thT 13 ((1+3*q:Nat):Int) k (nd l.length q:Nat) (IntKind.i64.wrap ((at' l (q:Int)).1-k)) fs) e (thT 14 ((1+3*(q+1):Nat):Int) k (nd l.length q:Nat) (IntKind.i64.wrap ((at' l (q:Int)).1-k)) fs) e:=by
     rw [←hnx]
     exact r_lo (li (x:=13) (by decide) rfl) rfl rfl rfl (by decide) (by decide) rfl rfl
    have s7:Rch (chCode ks) (layM l) d 1 (thT 14 ((1+3*(q+1):Nat):Int) k (nd l.length q:Nat) (IntKind.i64.wrap ((at' l (q:Int)).1-k)) fs) e (thT 8 ((1+3*(q+1):Nat):Int) k (nd l.length q:Nat) (IntKind.i64.wrap ((at' l (q:Int)).1-k)) fs) e:=r_lo (li (x:=14) (by decide) rfl) rfl rfl rfl (by decide) (by decide) rfl rfl
    obtain ⟨N,c',f',h1,h2⟩:=seek_go hl hr hk m (q+1) (by omega) ((nd l.length q:Nat):Int) (IntKind.i64.wrap ((at' l (q:Int)).1-k))
    refine ⟨1+1+1+1+1+1+1+N,c',f',by omega,?_⟩
    have e1:sq l k (m+1) q=sq l k m (q+1):=by rw [sq,if_neg hf]
    rw [e1]
    exact (((s14.trans s5).trans s6).trans s7).trans h2
theorem key_go (hl:l.length≤12) (hr:∀ p∈l,i64r p.1) {i:Nat} (hi:i < ks.length) (hk:bd ks[i]) (a b c f:Int):∃ N b' c' f' x y,N≤13*l.length+14∧Rch (chCode ks) (layM l) d N (thT (16+8*i) a b c f []) e (thT (16+8*(i+1)) b' ks[i] c' f' [])
  ((e++[⟨6,0,[(fq l ks[i] l.length 0:Nat),ks[i],x,f]⟩])++[⟨7,0,[(sq l ks[i] l.length 0:Nat),ks[i],y,f']⟩]):=by
 have kc:=fun {o:Nat} (ho:o < 8)=>ch_key ks hi ho
 have s1:Rch (chCode ks) (layM l) d 1 (thT (16+8*i+0) a b c f []) e (thT (16+8*i+1) 1 b c f []) e:=r_lo (kc (o:=0) (by decide)) rfl rfl rfl (by decide) (by decide) rfl rfl
 have s2:Rch (chCode ks) (layM l) d 1 (thT (16+8*i+1) 1 b c f []) e (thT (16+8*i+2) 1 ks[i] c f []) e:=r_lo (kc (o:=1) (by decide)) rfl rfl rfl (by show (1:Int)≠13;decide) (by show (1:Int)≠14;decide) rfl rfl
 have s3:Rch (chCode ks) (layM l) d 1 (thT (16+8*i+2) 1 ks[i] c f []) e (thT 0 1 ks[i] c f ([]++[⟨((16+8*i+2:Nat):Int)+1,[0,0,0,0]⟩])) e:=r_call (to:=0) (by decide) (kc (o:=2) (by decide)) (by decide)
 have s4:Rch (chCode ks) (layM l) d 1 (thT 0 1 ks[i] c f ([]++[⟨((16+8*i+2:Nat):Int)+1,[0,0,0,0]⟩])) e (thT 1 (nd l.length 0:Nat) ks[i] c f ([]++[⟨((16+8*i+2:Nat):Int)+1,[0,0,0,0]⟩])) e:=r_load (x:=1) (li (x:=0) (by decide) rfl) rfl (lay_head l) rfl
 obtain ⟨N1,c1,h1,g1⟩:=find_go (ks:=ks) (d:=d) (e:=e) (fs:=[]++[⟨((16+8*i+2:Nat):Int)+1,[0,0,0,0]⟩]) hl hr hk l.length 0 (by omega) c f
 have s5:Rch (chCode ks) (layM l) d 1 (thT 7 (fq l ks[i] l.length 0:Nat) ks[i] c1 f ([]++[⟨((16+8*i+2:Nat):Int)+1,[0,0,0,0]⟩])) e (thT (16+8*i+3) (fq l ks[i] l.length 0:Nat) ks[i] c1 f []) e:=r_ret (back:=16+8*i+3) (li (x:=7) (by decide) rfl)
 have s6:=r_mark (m:=layM l) (d:=d) (e:=e) (a:=(fq l ks[i] l.length 0:Nat)) (b:=ks[i]) (c:=c1) (f:=f) (fs:=[]) (kc (o:=3) (by decide))
 have s7:Rch (chCode ks) (layM l) d 1 (thT (16+8*i+4) (fq l ks[i] l.length 0:Nat) ks[i] c1 f []) (e++[⟨6,0,[(fq l ks[i] l.length 0:Nat),ks[i],c1,f]⟩]) (thT (16+8*i+5) 1 ks[i] c1 f []) (e++[⟨6,0,[(fq l ks[i] l.length 0:Nat),ks[i],c1,f]⟩]):=r_lo (kc (o:=4) (by decide)) rfl rfl rfl (by decide) (by decide) rfl rfl
 have s8:Rch (chCode ks) (layM l) d 1 (thT (16+8*i+5) 1 ks[i] c1 f []) (e++[⟨6,0,[(fq l ks[i] l.length 0:Nat),ks[i],c1,f]⟩]) (thT (16+8*i+6) 1 ks[i] c1 f []) (e++[⟨6,0,[(fq l ks[i] l.length 0:Nat),ks[i],c1,f]⟩]):=r_lo (kc (o:=5) (by decide)) rfl rfl rfl (by show (1:Int)≠13;decide) (by show (1:Int)≠14;decide) rfl rfl
 have s9:Rch (chCode ks) (layM l) d 1 (thT (16+8*i+6) 1 ks[i] c1 f []) (e++[⟨6,0,[(fq l ks[i] l.length 0:Nat),ks[i],c1,f]⟩]) (thT 8 1 ks[i] c1 f ([]++[⟨((16+8*i+6:Nat):Int)+1,[0,0,0,0]⟩])) (e++[⟨6,0,[(fq l ks[i] l.length 0:Nat),ks[i],c1,f]⟩]):=r_call (to:=8) (by decide) (kc (o:=6) (by decide)) (by decide)
 obtain ⟨N2,c2,f2,h2,g2⟩:=seek_go (ks:=ks) (d:=d) (e:=e++[⟨6,0,[(fq l ks[i] l.length 0:Nat),ks[i],c1,f]⟩]) (fs:=[]++[⟨((16+8*i+6:Nat):Int)+1,[0,0,0,0]⟩]) hl hr hk l.length 0 (by omega) c1 f
 have s10:Rch (chCode ks) (layM l) d 1 (thT 15 (sq l ks[i] l.length 0:Nat) ks[i] c2 f2 ([]++[⟨((16+8*i+6:Nat):Int)+1,[0,0,0,0]⟩])) (e++[⟨6,0,[(fq l ks[i] l.length 0:Nat),ks[i],c1,f]⟩]) (thT (16+8*i+7) (sq l ks[i] l.length 0:Nat) ks[i] c2 f2 []) (e++[⟨6,0,[(fq l ks[i] l.length 0:Nat),ks[i],c1,f]⟩]):=r_ret (back:=16+8*i+7) (li (x:=15) (by decide) rfl)
 have s11:=r_mark (m:=layM l) (d:=d) (e:=e++[⟨6,0,[(fq l ks[i] l.length 0:Nat),ks[i],c1,f]⟩]) (a:=(sq l ks[i] l.length 0:Nat)) (b:=ks[i]) (c:=c2) (f:=f2) (fs:=[]) (kc (o:=7) (by decide))
 exact ⟨_,_,_,_,c1,c2,by omega,(((((((((((s1.trans s2).trans s3).trans s4).trans g1).trans s5).trans s6).trans s7).trans s8).trans s9).trans g2).trans s10).trans s11⟩
end
end Go.AL
end
section
set_option maxRecDepth 100000
namespace Go.AL
open Go Go.Proofs
structure ChE (l:List Pr) (ks:List Int) (i:Nat) (e:List Evt):Prop where
 len:e.length=2*i
 at0:∀ q,q < i→∃ x y,e[2*q]? = some ⟨6,0,[(fq l (at' ks (q:Int)) l.length 0:Nat),at' ks (q:Int),x,y]⟩
 at1:∀ q,q < i→∃ x y,e[2*q+1]? = some ⟨7,0,[(sq l (at' ks (q:Int)) l.length 0:Nat),at' ks (q:Int),x,y]⟩
theorem keys_go {ks:List Int} {l:List Pr} {d:Int} (hl:l.length≤12) (hr:∀ p∈l,i64r p.1) (hk:∀ k∈ks,bd k):∀ i,i≤ks.length→∃ N a b c f e,N≤200*i∧Rch (chCode ks) (layM l) d N (thT 16 0 0 0 0 []) [] (thT (16+8*i) a b c f []) e∧ChE l ks i e
 | 0,_=>⟨0,0,0,0,0,[],Nat.le_refl _,Rch.refl _ _,⟨rfl,fun q hq=>absurd hq (by omega),fun q hq=>absurd hq (by omega)⟩⟩
 | i+1,hi=>by
  obtain ⟨N,a,b,c,f,e,h1,h2,h3⟩:=keys_go hl hr hk i (by omega)
  have hlt:i < ks.length:=hi
  obtain ⟨N',b',c',f',x,y,g1,g2⟩:=key_go (ks:=ks) (d:=d) (e:=e) hl hr hlt (hk _ (List.getElem_mem hlt)) a b c f
  refine ⟨N+N',b',ks[i],c',f',_,by omega,h2.trans g2,⟨?_,fun q hq=>?_,fun q hq=>?_⟩⟩
  ·rw [List.length_append,List.length_append,h3.len]
   show 2*i+1+1=_
   omega
  ·by_cases e2:q=i
   ·subst e2
    refine ⟨x,f,?_⟩
    rw [List.getElem?_append_left (by rw [List.length_append,h3.len];show 2*q < 2*q+1;omega),List.getElem?_append_right (by rw [h3.len];exact Nat.le_refl _),h3.len,Nat.sub_self,at_nat ks q hlt];rfl
   ·obtain ⟨x',y',h⟩:=h3.at0 q (by omega)
    refine ⟨x',y',?_⟩
    rw [List.append_assoc,List.getElem?_append_left (by rw [h3.len];omega),h]
  ·by_cases e2:q=i
   ·subst e2
    refine ⟨y,f',?_⟩
    rw [List.getElem?_append_right (by rw [List.length_append,h3.len];show 2*q+1≤_;omega),List.length_append,h3.len,at_nat ks q hlt]
    rw [show 2*q+1-(2*q+[(⟨6,0,[(fq l ks[q] l.length 0:Nat),ks[q],x,f]⟩:Evt)].length)=0 by show 2*q+1-(2*q+1)=0;omega];rfl
   ·obtain ⟨x',y',h⟩:=h3.at1 q (by omega)
    refine ⟨x',y',?_⟩
    rw [List.append_assoc,List.getElem?_append_left (by rw [h3.len];omega),h]
theorem ch_start {ks:List Int} (hK:keysOk ks=true) (hk:ks.length≤20) (l:List Pr) (d:Int):chO l ks d=oneW (chCode ks) (layM l) d (thT 16 0 0 0 0 []) []:=by
 have hpr:=ch_p0 hK hk
 have hp0:(rparse (chTx ks)).2.2=0:=by rw [hpr]
 obtain ⟨z1,_⟩:=rst_eq hp0 [[116,48]]
 have hw:rst (chTx ks) [[116,48]]=[16]:=by
  rw [←z1]
  show [(whereP (chTx ks) [116,48]).1]=_
  rw [show whereP (chTx ks) [116,48]=(16,0) from ch_where ks (keysOk_bd hK) hk]
 unfold chO
 rw [hw];rfl
theorem ch_final {ks:List Int} {l:List Pr} {d:Int} (hP:prsOk l=true) (hK:keysOk ks=true) (h16:ks.length≤16) (hd:inn d 0 8=true) (hr:∀ p∈l,i64r p.1) :
  ∃ t e,(roundsW (chO l ks d) 10000).1=oneW (chCode ks) (layM l) d t e∧t.state=1∧ChE l ks ks.length e:=by
 obtain ⟨_,hw⟩:=wch0_good hP hK h16 hd
 rw [ch_start hK (by omega)] at hw ⊢
 obtain ⟨N,a,b,c,f,e,h1,h2,h3⟩:=keys_go (d:=d) (prs12 hP) hr (keysOk_bd hK) ks.length (Nat.le_refl _)
 have h4:=h2.trans (r_halt (m:=layM l) (d:=d) (e:=e) (a:=a) (b:=b) (c:=c) (f:=f) (fs:=[]) (ch_end ks))
 obtain ⟨h5,h6⟩:=h4 hw
 refine ⟨{ thT (16+8*ks.length) a b c f [] with state:=1 },e,?_,rfl,h3⟩
 have h7:=h6 (10000-(N+1))
 rw [show N+1+(10000-(N+1))=10000 by omega] at h7
 rw [h7]
 have hi:idleW (oneW (chCode ks) (layM l) d { thT (16+8*ks.length) a b c f [] with state:=1 } e)=true:=rfl
 cases 10000-(N+1) with
 | zero=>rfl
 | succ q=>unfold roundsW;rw [hi];rfl
end Go.AL
end
section
set_option maxRecDepth 100000
namespace Go.AL
open Go Go.Proofs
attribute [local irreducible] J
theorem fq_found {l:List Pr} {k:Int}:∀ (m q j:Nat),q≤j→j < q+m→(∀ x,q≤x→x < j→(at' l (x:Int)).1≠k)→(at' l (j:Int)).1=k→fq l k m q=2+3*j∧sq l k m q=1+3*j
 | 0,q,j,h1,h2,_,_=>absurd h2 (by omega)
 | m+1,q,j,h1,h2,h3,h4=>by
  unfold fq sq
  by_cases e:q=j
  ·subst e
   rw [if_pos h4,if_pos h4]
   exact ⟨rfl,rfl⟩
  ·rw [if_neg (h3 q (Nat.le_refl _) (by omega)),if_neg (h3 q (Nat.le_refl _) (by omega))]
   exact fq_found m (q+1) j (by omega) (by omega) (fun x a b=>h3 x (by omega) b) h4
theorem fq_none {l:List Pr} {k:Int}:∀ (m q:Nat),(∀ x,q≤x→x < q+m→(at' l (x:Int)).1≠k)→fq l k m q=0∧sq l k m q=1+3*(q+m)
 | 0,q,h=>⟨rfl,rfl⟩
 | m+1,q,h=>by
  unfold fq sq
  rw [if_neg (h q (Nat.le_refl _) (by omega)),if_neg (h q (Nat.le_refl _) (by omega))]
  obtain ⟨a,b⟩:=fq_none m (q+1) fun x a b=>h x (by omega) (by omega)
  exact ⟨a,by rw [b];omega⟩
theorem at_some {e:List Evt} {q:Nat} {x:Evt} (h:e[q]? = some x):at' e (q:Int)=x:=by
 have hlt:=(List.getElem?_eq_some_iff.1 h).1
 rw [at_nat e q hlt]
 exact (List.getElem?_eq_some_iff.1 h).2
theorem wch0_no (l:List Pr) (ks:List Int) (d:Int):(∃ n:Int,n≠0∧wch0 l ks d=(wd0,n))∨(prsOk l=true∧keysOk ks=true∧ks.length≤16∧inn d 0 8=true):=by
 cases hP:prsOk l with
 | false=>exact .inl ⟨1,by decide,by unfold wch0;rw [hP,Bool.and_false];rfl⟩
 | true =>
  cases hK:keysOk ks with
  | false=>exact .inl ⟨1,by decide,by unfold wch0;rw [hK];rfl⟩
  | true =>
   by_cases h16:ks.length≤16
   ·cases hd:inn d 0 8 with
    | false=>exact .inl ⟨2,by decide,wch0_depth hP hK h16 hd⟩
    | true=>exact .inr ⟨rfl,rfl,h16,rfl⟩
   ·exact .inl ⟨2,by decide,by unfold wch0;rw [hP,hK,decide_eq_false h16];rfl⟩
theorem chf_law (g:Gl) (l:List Pr) (ks:List Int) (d:Int) (hr:∀ x∈l,i64r x.1):ACalls Tryz.prog 3 [encPs l,ivs ks,iv d] (gls g) (one (bv true) (gls g)):=by
 have m1:(if (14:Int) < (((l.map encP).length:Nat):Int) then (14:Int) else (((l.map encP).length:Nat):Int))=((min l.length 14:Nat):Int):=by rw [List.length_map];split<;>omega
 have m2:(if (20:Int) < (((ks.map iv).length:Nat):Int) then (20:Int) else (((ks.map iv).length:Nat):Int))=((min ks.length 20:Nat):Int):=by rw [List.length_map];split<;>omega
 have hl1:(l.take 14).length≤14:=by rw [List.length_take];omega
 have hk1:(ks.take 20).length≤20:=by rw [List.length_take];omega
 have hr1:∀ x∈l.take 14,i64r x.1:=fun x hx=>hr x (List.mem_of_mem_take hx)
 unfold encPs ivs gls
 refine jC Tryz.func3 Tryz.ntmps3 (fun w0 β0 ext hβ=>?_)
 repeat (first|refine jS ?_|refine jB ?_)
 refine jdraw ?_ ?_;· kernel_rfl
 repeat (first|refine jS ?_|refine jD ?_|refine jB ?_)
 refine jo rfl rfl (cut_take 14 rfl rfl rfl m1 rfl rfl rfl (fun _=>⟨rfl,rfl⟩)) rfl rfl ?_
 repeat (first|refine jS ?_|refine jD ?_|refine jB ?_)
 refine jo rfl rfl (cut_take 20 rfl rfl rfl m2 rfl rfl rfl (fun _=>⟨rfl,rfl⟩)) rfl rfl ?_
 generalize l.take 14=t at *
 generalize ks.take 20=q at *
 clear hr m1 m2
 have h1:=chworld_ok g t q d (by omega) hk1
 have h3:=chalive_ok g
 rcases wch0_no t q d with ⟨n,hn,e⟩|⟨hP,hK,h16,hd⟩
 ·rw [e] at h1
  have hn0:(n != 0)=true:=by rw [bne_iff_ne];exact hn
  unfold encPs ivs at *
  unfold gls at *
  unfold encWd wCells ivs at *
  repeat (first|refine jS ?_|refine jD ?_|refine jB ?_)
  refine jBb [0,1,2,3] h1 ?_
  repeat (first|refine jS ?_|refine jD ?_|refine jB ?_)
  rw [hn0]
  repeat (first|refine jS ?_|refine jD ?_|refine jB ?_)
  refine jBb [0,1,2,3] h3 ?_
  repeat (first|refine jS ?_|refine jD ?_|refine jB ?_)
  exact jR
 ·obtain ⟨e2,e3⟩:=wch0_good hP hK h16 hd
  obtain ⟨T,E,f1,f2,f3⟩:=ch_final (d:=d) hP hK h16 hd hr1
  have h12:=prs12 hP
  rw [e2] at h1
  have h2:=rounds_ok (chO t q d) 10000 e3 (by show (0:Nat)≤500000;decide) (by decide)
  rw [f1] at h2
  rw [ch_start hK hk1] at h1 h2
  have hML:=layM_len t
  have h4:=rsame_mem (layM t) (by omega) (by omega)
  generalize (roundsW (chO t q d) 10000).2=n at *
  generalize chO t q d=w0 at *
  clear e2 e3 f1 hd hP hK hML
  generalize layM t=M at *
  generalize chCode q=C at *
  unfold encPs ivs at *
  unfold gls at *
  unfold oneW encWd wCells encMem mCells ivs at *
  simp only at h1 h2
  have hEl:(((((E.map encEvt).length:Nat):Int)) != IntKind.i64.wrap (2*(((q.map iv).length:Nat):Int)))=false:=by
   rw [List.length_map,List.length_map,f3.len,wrap_id (by omega) (by omega),bne_eq_false_iff_eq];omega
  have i0:(0:Int)≤0:=by decide
  have j0:(0:Int) < ([T]:List Thr).length:=(by decide:(0:Int) < 1)
  repeat (first|refine jS ?_|refine jD ?_|refine jB ?_)
  refine jBb [0,1,2,3] h1 ?_
  repeat (first|refine jS ?_|refine jD ?_|refine jB ?_|refine jV h2 ?_)
  refine jI (enc:=encThr) (l:=[T]) i0 j0 ?_
  rw [show at' ([T]:List Thr) 0=T from rfl]
  repeat (first|refine jS ?_|refine jD ?_|refine jB ?_)
  rw [show (T.state != 1)=false from by rw [f2];rfl]
  repeat (first|refine jS ?_|refine jD ?_|refine jB ?_)
  rw [hEl]
  repeat (first|refine jS ?_|refine jD ?_|refine jB ?_|refine jV h4 ?_)
  refine jBb [0,1,2,3] h3 ?_
  repeat (first|refine jS ?_|refine jD ?_|refine jB ?_)
  refine jloop 6 (fun i:Nat=>i≤q.length) [0,9,91,92,93] (fun i=>[.sl (t.map encP),.ptr 5 0,.sl (q.map iv),.v (.int .i64 ((q.map iv).length:Int)),.v (.int .i64 (i:Int))])
   (fun i=>_) (fun i=>q.length-i) 0 (jbl hβ) (Nat.zero_le _) rfl rfl (fun i hi=>?_)
  repeat (first|refine jS ?_|refine jD ?_|refine jB ?_)
  refine jc rfl rfl rfl (fun h=>?_) (fun h=>?_)
  ·have h:=of_decide_eq_true h
   rw [List.length_map] at h
   have hi2:i < q.length:=by omega
   have hidx:IntKind.i64.wrap ((i:Int)+1)=((i+1:Nat):Int):=idx_next hi2 (by omega)
   obtain ⟨xa,ya,ha⟩:=f3.at0 i hi2
   obtain ⟨xb,yb,hb⟩:=f3.at1 i hi2
   have ha:=at_some ha
   have hb:=at_some hb
   have hlen:=f3.len
   have w2:IntKind.i64.wrap (2*(i:Int))=((2*i:Nat):Int):=by rw [wrap_id (by omega) (by omega)];omega
   have w3:IntKind.i64.wrap (((2*i:Nat):Int)+1)=((2*i+1:Nat):Int):=by rw [wrap_id (by omega) (by omega)];omega
   have p2:(0:Int)≤((2*i:Nat):Int):=Int.natCast_nonneg _
   have q2:((2*i:Nat):Int) < E.length:=by omega
   have p3:(0:Int)≤((2*i+1:Nat):Int):=Int.natCast_nonneg _
   have q3:((2*i+1:Nat):Int) < E.length:=by omega
   repeat (first|refine jS ?_|refine jD ?_|refine jB ?_)
   refine jI (Int.natCast_nonneg i) h ?_
   generalize at' q (i:Int)=κ at *
   repeat (first|refine jmidS (x:=.block 2 _) [0,9,91,92,93,12,13,14,15] [.sl (t.map encP),.ptr 5 0,.sl (q.map iv),.v (.int .i64 ((q.map iv).length:Int)),.v (.int .i64 (i:Int)),.v (.int .i64 (i:Int)),.v (.int .i64 κ),.v (.int .i64 ((fq t κ t.length 0:Nat):Int)),.v (.int .i64 ((sq t κ t.length 0:Nat):Int))] ?_ ?_|refine jS ?_)
   ·refine jloop 6 (fun j:Nat=>j≤t.length∧∀ x,x < j→(at' t (x:Int)).1≠κ) [0,9,91,92,93,12,13,14,15,98,99,100] (fun j=>[.sl (t.map encP),.ptr 5 0,.sl (q.map iv),.v (.int .i64 ((q.map iv).length:Int)),.v (.int .i64 (i:Int)),.v (.int .i64 (i:Int)),.v (.int .i64 κ),.v (.int .i64 0),.v (.int .i64 ((1+3*j:Nat):Int)),.sl (t.map encP),.v (.int .i64 ((t.map encP).length:Int)),.v (.int .i64 (j:Int))])
     (fun j=>_) (fun j=>t.length-j) 0 (jbl hβ) ⟨Nat.zero_le _,fun x hx=>absurd hx (by omega)⟩ rfl rfl (fun j hj=>?_)
    obtain ⟨hj,hno⟩:=hj
    repeat (first|refine jS ?_|refine jD ?_|refine jB ?_)
    refine jc rfl rfl rfl (fun h'=>?_) (fun h'=>?_)
    ·have h':=of_decide_eq_true h'
     rw [List.length_map] at h'
     have hj2:j < t.length:=by omega
     have hjdx:IntKind.i64.wrap ((j:Int)+1)=((j+1:Nat):Int):=idx_next hj2 (by omega)
     have v1:IntKind.i64.wrap (3*(j:Int))=((3*j:Nat):Int):=by rw [wrap_id (by omega) (by omega)];omega
     have v2:IntKind.i64.wrap (2+((3*j:Nat):Int))=((2+3*j:Nat):Int):=by rw [wrap_id (by omega) (by omega)];omega
     have v4:IntKind.i64.wrap (4+((3*j:Nat):Int))=((1+3*(j+1):Nat):Int):=by rw [wrap_id (by omega) (by omega)];omega
     have hfo:=fun e=>fq_found (l:=t) (k:=κ) t.length 0 j (Nat.zero_le _) (by omega) (fun x _ hx=>hno x hx) e
     repeat (first|refine jS ?_|refine jD ?_|refine jB ?_|refine jI (Int.natCast_nonneg j) h' ?_)
     by_cases hk:(at' t (j:Int)).1=κ
     ·obtain ⟨g1,g2⟩:=hfo hk
      rw [show ((at' t (j:Int)).1 == κ)=true from by rw [hk];simp]
      repeat (first|(refine jfin (c:=.exit 2) 6 [0,9,91,92,93,12,13,14,15] true rfl rfl rfl (jbl hβ) ?_;refine jS ?_)|refine jS ?_)
      rw [v1,g1,g2,←v2]
      exact jmeet rfl rfl
     ·rw [show ((at' t (j:Int)).1 == κ)=false from beq_eq_false_iff_ne.2 hk]
      repeat (first|refine jS ?_|refine jD ?_|refine jB ?_)
      rw [v1,v4]
      repeat (first|refine jS ?_|refine jD ?_|refine jB ?_)
      refine jnext (j+1) ⟨hj2,fun x hx=>?_⟩ (by omega) rfl rfl rfl ?_ rfl
      ·by_cases e:x=j
       ·subst e;exact hk
       ·exact hno x (by omega)
      ·rw [hjdx]<;>rfl
    ·have h':=of_decide_eq_false h'
     rw [List.length_map] at h'
     have:j=t.length:=by omega
     subst this
     obtain ⟨g1,g2⟩:=fq_none (l:=t) (k:=κ) t.length 0 (fun x _ hx=>hno x (by omega))
     rw [g1,g2,Nat.zero_add]
     repeat (first|refine jS ?_|refine jD ?_|refine jB ?_)
     exact jmeet rfl rfl
   ·generalize fq t κ t.length 0=A1 at *
    generalize sq t κ t.length 0=B1 at *
    have e1:((A1:Int) != (A1:Int))=false:=by simp
    have e2:((B1:Int) != (B1:Int))=false:=by simp
    have e3:(κ != κ)=false:=by simp
    have hEa:encEvt ⟨6,0,[(A1:Int),κ,xa,ya]⟩ = .agg [iv 6,iv 0,iv (A1:Int),iv κ,iv xa,iv ya]:=rfl
    have hEb:encEvt ⟨7,0,[(B1:Int),κ,xb,yb]⟩ = .agg [iv 7,iv 0,iv (B1:Int),iv κ,iv xb,iv yb]:=rfl
    repeat (first|refine jS ?_|refine jB ?_)
    refine jfork [(0,.p),(1,.r),(2,.p),(3,.p),(4,.p),(5,.p),(6,.p),(7,.y 6 8),(8,.p),(9,.p),(10,.p),(11,.p),(12,.p)] (13,.x) [(14,.x),(15,.w 6 8),(16,.m)] (14,.x) [(13,.x),(15,.w 6 8),(16,.m)] rfl (by kernel_rfl) ?_
    repeat (first|refine jS ?_|refine jD ?_|refine jB ?_)
    rw [w2]
    refine jI (enc:=encEvt) (l:=E) p2 q2 ?_
    rw [ha,hEa]
    repeat (first|refine jS ?_|refine jo rfl rfl (load_y (n:=6) (m:=8) rfl rfl rfl rfl) rfl rfl ?_)
    rw [w2]
    repeat (first|refine jS ?_|refine jD ?_|refine jB ?_)
    rw [w3]
    refine jI (enc:=encEvt) (l:=E) p3 q3 ?_
    rw [hb,hEb]
    repeat (first|refine jS ?_|refine jD ?_|refine jB ?_)
    refine jfk ?_ ?_
    all_goals (
     repeat (first|refine jS ?_|refine jo rfl rfl (store_w (n:=6) (m:=8) rfl rfl rfl rfl) rfl rfl ?_|refine jo rfl rfl (index_arr rfl rfl rfl rfl rfl (by decide) (by decide)) rfl rfl ?_)
     rw [e1]
     repeat (first|refine jS ?_|refine jD ?_|refine jB ?_|refine jo rfl rfl (index_arr rfl rfl rfl rfl rfl (by decide) (by decide)) rfl rfl ?_)
     rw [e2]
     repeat (first|refine jS ?_|refine jD ?_|refine jB ?_|refine jo rfl rfl (index_arr rfl rfl rfl rfl rfl (by decide) (by decide)) rfl rfl ?_)
     rw [e3]
     repeat (first|refine jS ?_|refine jD ?_|refine jB ?_)
     refine jnext (i+1) hi2 (by omega) rfl rfl rfl ?_ rfl
     rw [hidx]<;>rfl
    )
  ·repeat (first|refine jS ?_|refine jD ?_|refine jB ?_)
   exact jR
end Go.AL
end
section
set_option maxRecDepth 100000
namespace Go.Proofs.YteefnlbapebamaaGreatDoor
open Go Go.AL Go.ChangeShapes Go.WideShapes Go.ChangeAt Go.RowKit
theorem own:ownKnob Tryz.prog.godebug=none:=by kernel_rfl
theorem kids:Kids Tryz.prog (· < Tryz.prog.types.size):=kids_rows (by kernel_rfl) (by kernel_rfl)
theorem full:∀ t e,t < Tryz.prog.types.size→Tryz.prog.underlying t=some (.slice e)→0 < Tryz.prog.cellsOf e:=slices_full_of _ (by kernel_rfl)
theorem g_pow:Tryz.prog.globalNamed "internal/strconv.uint64pow10" = some 1:=by kernel_rfl
theorem g_syn:Tryz.prog.globalNamed "strconv.ErrSyntax" = some 5:=by kernel_rfl
theorem g_ran:Tryz.prog.globalNamed "strconv.ErrRange" = some 6:=by kernel_rfl
def glx (g:Gl):List (Nat × Obj):=[(1,.cells powV g.t1 g.f1),(5,.cells #[.iface g.e2 g.p2] g.t2 g.f2),(6,.cells #[.iface g.e3 g.p3] g.t3 g.f3),(4,.cells #[.int .i64 g.m] g.t0 g.f0)]
theorem var_heap {W:World} {n:String} {g:Nat} {cs:Array Value} (hg:Tryz.prog.globalNamed n=some g) (hv:W.var? Tryz.prog n=some cs):∃ t f,W.heap[g]? = some (.cells cs t f):=by
 unfold World.var? at hv
 rw [hg] at hv
 simp only [Option.bind_some] at hv
 split at hv
 ·rename_i c t f h
  injection hv with hv
  exact ⟨t,f,by rw [h,hv]⟩
 ·cases hv
theorem iface_head {W:World} {n nm:String} {x:DataW Unit} {r:List (String × DataW Unit)} {g:Nat} {t:TypeId} {ms:Array (String × TypeId)} (h:laidMet Tryz.prog ((n,.iface nm x)::r) W)
  (hg:Tryz.prog.globalNamed n=some g) (ht:(Tryz.prog.globals[g]?).map (·.type)=some t) (hu:Tryz.prog.underlying t=some (.interface ms)):∃ e p,W.var? Tryz.prog n=some #[.iface e p]:=by
 obtain ⟨ps,⟨g0,t0,cs0,f0,p0,q0,hg0,ht0,hv0,hd0,_,_⟩,_,_⟩:=h
 obtain rfl:=Option.some.inj (hg.symm.trans hg0)
 obtain rfl:=Option.some.inj (ht.symm.trans ht0)
 obtain ⟨_,u,v,e,_,_⟩:=iface_of_trod hu hd0
 refine ⟨u,v,?_⟩
 rw [hv0]
 congr 1
 apply Array.ext'
 simpa using e
def laidL:List (String × DataW Unit):=[("math/bits.deBruijn32tab",Rows.laid_math_bits_deBruijn32tab),("math/bits.deBruijn64tab",Rows.laid_math_bits_deBruijn64tab),("internal/strconv.uint64pow10",Rows.laid_internal_strconv_uint64pow10),("unicode/utf8.acceptRanges",Rows.laid_unicode_utf8_acceptRanges),("errors.errorType",Rows.laid_errors_errorType),("strconv.ErrRange",Rows.laid_strconv_ErrRange),("strconv.ErrSyntax",Rows.laid_strconv_ErrSyntax),("unicode/utf8.first",Rows.laid_unicode_utf8_first)]
def plainL:List (String × DataW Unit):=[("math/bits.deBruijn32tab",Rows.laid_math_bits_deBruijn32tab),("math/bits.deBruijn64tab",Rows.laid_math_bits_deBruijn64tab),("internal/strconv.uint64pow10",Rows.laid_internal_strconv_uint64pow10),("unicode/utf8.acceptRanges",Rows.laid_unicode_utf8_acceptRanges),("strconv.ErrRange",Rows.laid_strconv_ErrRange),("strconv.ErrSyntax",Rows.laid_strconv_ErrSyntax),("unicode/utf8.first",Rows.laid_unicode_utf8_first)]
theorem plain_eq:(laidL.filter fun x=>x.2.handleName?.isNone)=plainL:=by kernel_rfl
theorem laid_plain {W:World} (h:laidMetH Tryz.prog laidL W):laidMet Tryz.prog plainL W:=by
 have h1:=(laidMetH_iff.1 h).1
 rwa [plain_eq] at h1
noncomputable def errW (os:Os):World :=
 let w0:=World.holding Tryz.prog os ⟨#[],#[],[]⟩
 { w0 with heap:=w0.heap.modify 0 fun
   | .cells _ t frozen=>.cells #[.iface 261 (.agg #[typeHandle Tryz.prog 88])] t frozen
   | o=>o }
noncomputable def laidW (os:Os):World:=(errW os).layVars Tryz.prog plainL
theorem laidW_os (os:Os):(laidW os).os=os:=World.layVars_os _ _ _
theorem laidW_met (os:Os) (args:Array Value):laidMetH Tryz.prog laidL ((laidW os).forCall (fun _ _=>0) ⟨#[],args,[]⟩).memory:=by
 refine laidMetH_of_parts ?_ (by kernel_rfl)
 rw [plain_eq]
 have e1:(plainL.filter fun x=>(plainL.map (·.1)).contains x.1)=plainL:=List.filter_eq_self.2 fun x hx=>List.contains_iff_mem.2 (List.mem_map.2 ⟨x,hx,rfl⟩)
 have e2:(plainL.filter fun x=>!(plainL.map (·.1)).contains x.1)=[]:=List.filter_eq_nil_iff.2 fun x hx=>by rw [List.contains_iff_mem.2 (List.mem_map.2 ⟨x,hx,rfl⟩)];simp
 have h:laidMet Tryz.prog plainL (laidW os):=laidMet_layVars (w0:=errW os) (plainL.map (·.1)) [] (by rw [e1];rfl) (by rw [e1];kernel_rfl) (by rw [e1];kernel_rfl) (by rw [e2];exact LaidIn.none)
 exact h.of_heap (by simp [World.memory,World.forCall,Input.heap])
theorem gl_exists {W:World} (hL:laidMetH Tryz.prog laidL W) (hS:W.ShapedOpen Tryz.prog):∃ g:Gl,∀ p∈glx g,W.heap[p.1]? = some p.2∧∀ d,p.2 ≠ .deferred d:=by
 replace hL:=laid_plain hL
 have h3:=hL.tail.tail
 have h5:=hL.tail.tail.tail.tail
 have h6:=hL.tail.tail.tail.tail.tail
 obtain ⟨t1,f1,a1⟩:=var_heap g_pow (Lib.tabIs_of_head (k:=.u64) (zs:=Lib.pow10Tab) (n:=20) (t:=295) (e:=245) g_pow (by kernel_rfl) (by kernel_rfl) (by kernel_rfl) (by kernel_rfl) (by kernel_rfl) h3)
 obtain ⟨e3,p3,b3⟩:=iface_head (t:=88) h5 g_ran (by kernel_rfl) Tryz.underlying88
 obtain ⟨e2,p2,b2⟩:=iface_head (t:=88) h6 g_syn (by kernel_rfl) Tryz.underlying88
 obtain ⟨t3,f3,a3⟩:=var_heap g_ran b3
 obtain ⟨t2,f2,a2⟩:=var_heap g_syn b2
 obtain ⟨m,a0⟩:=shaped_int (g:=4) (t:=3) (zero:=#[.int .i64 0]) (k:=.i64) hS (of_decide_eq_true (by kernel_rfl)) (by kernel_rfl) rfl (by kernel_rfl) (by kernel_rfl) (by kernel_rfl)
 refine ⟨⟨t1,t2,t3,f1,f2,f3,e2,e3,p2,p3,3,(0,0),m⟩,fun p hp=>?_⟩
 simp only [glx,List.mem_cons,List.mem_nil_iff,or_false] at hp
 rcases hp with rfl|rfl|rfl|rfl
 ·exact ⟨a1,fun d h=>by cases h⟩
 ·exact ⟨a2,fun d h=>by cases h⟩
 ·exact ⟨a3,fun d h=>by cases h⟩
 ·exact ⟨a0,fun d h=>by cases h⟩
end Go.Proofs.YteefnlbapebamaaGreatDoor
end
section
set_option maxRecDepth 100000
namespace Go.Proofs.YteefnlbapebamaaGreatDoor
open Go Go.AL Go.ChangeShapes Go.WideShapes Go.ChangeAt Go.RowKit
section
variable {H:Type} {enc:TypeId × Value→H} {W:World} {v:Value} {d:DataW H} {p:List MemPlace}
theorem open_list {α:Type} {encX:α→AVal} {t e:TypeId} {r r':TyRow} (f:List Int→α) (ht:tfind tyTab.tab t=some r') (hd':r'.d = .slice e) (he:tfind tyTab.tab e=some r) (hi:allInt tyTab.tab Tryz.prog.stoodInHeld 100 e=true) (hz:r.size≠0) (h1:aggB r.d=false→r.size=1)
  (hf:∀ ns:List Int,ns.length=r.size→encX (f ns)=rowA (aggB r.d) ns) (hv:∃ a l c,v = .slice a l c) (h:DataW.Trod enc Tryz.prog W 0 (fun _=>true) true t v d p):∃ m:List α,m.length≤maxLen∧Rel (out W) (.sl (m.map encX)) v:=by
 obtain ⟨a,l,c,rfl⟩:=hv
 obtain ⟨n,hn⟩:=h
 obtain ⟨nss,g1,g2,g3⟩:=open_rows (T:=tyTab) (st:=Tryz.prog.stoodInHeld) (n:=100) ht hd' he hi hz h1 hn
 refine ⟨nss.map f,by simpa using g2,?_⟩
 have:(nss.map f).map encX=nss.map (rowA (aggB r.d)):=by
  rw [List.map_map]
  exact List.map_congr_left fun ns hns=>hf ns (g1 ns hns)
 rw [this]
 exact g3
theorem one_ints:∀ {ns:List Int},ns.length=1→∃ a,ns=[a]
 | [a],_=>⟨a,rfl⟩
theorem two_ints:∀ {ns:List Int},ns.length=2→∃ a b,ns=[a,b]
 | [a,b],_=>⟨a,b,rfl⟩
theorem open_ints (hv:∃ a l c,v = .slice a l c) (h:DataW.Trod enc Tryz.prog W 0 (fun _=>true) true 23 v d p):∃ m:List Int,m.length≤maxLen∧Rel (out W) (ivs m) v :=
 open_list (fun ns=>ns.headD 0) rfl rfl rfl (by kernel_rfl) (by decide) (fun _=>rfl) (fun ns hn=>by obtain ⟨a,rfl⟩:=one_ints hn;rfl) hv h
theorem open_int (hv:∃ n,v = .int .i64 n) (h:DataW.Trod enc Tryz.prog W 0 (fun _=>true) true 3 v d p):∃ n:Int,True∧Rel (out W) (.v (.int .i64 n)) v:=by
 obtain ⟨n,rfl⟩:=hv
 exact ⟨n,trivial,rfl⟩
end
end Go.Proofs.YteefnlbapebamaaGreatDoor
end
section
set_option maxRecDepth 100000
namespace Go.AL
open Go Go.Deep
theorem wf_r {z:Int} (h:(Lit.int .i64 z).wf=true):i64r z:=by
 unfold Lit.wf at h
 rw [Bool.and_eq_true] at h
 exact ⟨of_decide_eq_true h.1,of_decide_eq_true h.2⟩
section
variable {P:Program} [T:TyTab P] {H:Type} {enc:TypeId × Value→H} {w:World} {base:Nat} {sp:Nat→Bool} {hd:Bool}
theorem trod_intsR {st:TypeId→Bool}:∀ (n:Nat) (t:TypeId) (r:TyRow) (fuel:Nat) (cs:List Value) (x:DataW H × List MemPlace),allInt T.tab st n t=true→tfind T.tab t=some r →
  DataW.trod enc P w base sp hd fuel t cs=some x→∃ ns:List Int,(cs=intsV ns∧ns.length=r.size)∧∀ z∈ns,i64r z
 | 0,t,r,fuel,cs,x,h,_,_=>by cases h
 | n+1,t,r,fuel,cs,x,h,ht,hx=>by
  simp only [allInt,ht] at h
  have hu:=ty_und ht
  split at h
  ·rename_i hk
   rw [hk] at hu
   have h1:=Nat.eq_of_beq_eq_true h
   obtain ⟨z,rfl,_,hwf⟩:=DataW.trod_int hu hx
   refine ⟨[z],⟨rfl,by simp [h1]⟩,fun y hy=>?_⟩
   obtain rfl:=List.mem_singleton.1 hy
   exact wf_r hwf
  ·rename_i fs hk
   rw [hk] at hu
   simp only [Bool.and_eq_true] at h
   obtain ⟨xs,m,rfl,rfl,hlen,hxl,hfs⟩:=DataW.trod_struct hu hx
   rw [ty_cells ht] at hlen
   have key:∀ (gs:List Field) (off:Nat),(∀ f∈gs,∃ y,DataW.trod enc P w base sp hd m f.type ((cs.drop f.offset).take (P.cellsOf f.type))=some y)→fieldsRun T.tab (allInt T.tab st n) r.size off gs=true→∃ ns:List Int,cs.drop off=intsV ns∧∀ z∈ns,i64r z:=by
    intro gs
    induction gs with
    | nil =>
     intro off _ hg
     have:=Nat.eq_of_beq_eq_true hg
     exact ⟨[],List.drop_of_length_le (by omega),fun z hz=>by cases hz⟩
    | cons f gs ih =>
     intro off hy hg
     simp only [fieldsRun,Bool.and_eq_true] at hg
     obtain ⟨⟨⟨g1,g2⟩,g3⟩,g4⟩:=hg
     have g1:=Nat.eq_of_beq_eq_true g1
     cases hr:tfind T.tab f.type with
     | none=>rw [hr] at g4;cases g4
     | some r' =>
      rw [hr] at g4
      obtain ⟨y,hy1⟩:=hy f (List.mem_cons_self ..)
      obtain ⟨a,⟨ha,hal⟩,har⟩:=trod_intsR n f.type r' m _ y g3 hr hy1
      obtain ⟨b,hb,hbr⟩:=ih (off+r'.size) (fun f hf=>hy f (List.mem_cons_of_mem _ hf)) g4
      refine ⟨a++b,?_,fun z hz=>(List.mem_append.1 hz).elim (har z) (hbr z)⟩
      rw [←List.take_append_drop r'.size (cs.drop off),List.drop_drop,hb]
      rw [g1,ty_cells hr] at ha
      rw [ha]
      simp [intsV]
   obtain ⟨ns,hns,hnr⟩:=key fs.toList 0 (fun f hf=>by
    obtain ⟨i,hi,rfl⟩:=List.getElem_of_mem hf
    have h1:=hfs i fs.toList[i] (by rw [←Array.getElem?_toList];exact List.getElem?_eq_getElem hi)
    rw [List.getElem?_eq_getElem (by rw [hxl];simpa using hi)] at h1
    exact ⟨_,h1⟩) h.2
   rw [List.drop_zero] at hns
   refine ⟨ns,⟨hns,?_⟩,hnr⟩
   rw [←hlen,hns];simp [intsV]
  ·cases h
theorem open_rowsR {st:TypeId→Bool} {n:Nat} {t e:TypeId} {r r':TyRow} {fuel:Nat} {u:Value} {x:DataW H × List MemPlace} (ht:tfind T.tab t=some r') (hd':r'.d = .slice e) (he:tfind T.tab e=some r) (hi:allInt T.tab st n e=true)
  (hz:r.size≠0) (h1:aggB r.d=false→r.size=1) (h:DataW.trod enc P w 0 sp hd fuel t [u]=some x) :
  ∃ nss:List (List Int),(∀ ns∈nss,ns.length=r.size∧∀ z∈ns,i64r z)∧nss.length≤maxLen∧Rel (out w) (.sl (nss.map (rowA (aggB r.d)))) u:=by
 have hu:P.underlying t=some (.slice e):=by rw [ty_und ht,hd']
 rcases open_slice hu h with ⟨h0,_⟩|⟨a,len,cap,m,k,D,Pl,hcs,_,hl,hm,hmm,_,hx⟩
 ·injection h0 with h0
  subst h0
  exact ⟨[],by simp,by simp,none,0,0,rfl,Nat.le_refl _,fun h=>absurd rfl h,trivial⟩
 ·injection hcs with hcs
  subst hcs
  rw [ty_cells he] at hx
  have hlm:len≤m:=by rw [hmm];split<;>omega
  have each:∀ i,i < len→∃ ns:List Int,(ns.length=r.size∧∀ z∈ns,i64r z)∧w.cells? 0 (a.add (i*r.size)) r.size=some (intsV ns):=fun i hi'=>by
   obtain ⟨cs',g1,g2⟩:=hx i (by omega)
   obtain ⟨ns,⟨rfl,hn⟩,hnr⟩:=trod_intsR n e r k cs' _ hi he g2
   exact ⟨ns,⟨hn,hnr⟩,g1⟩
  obtain ⟨N,hN⟩:=choose_lt (α:=List Int) (p:=fun i ns=>(ns.length=r.size∧∀ z∈ns,i64r z)∧w.cells? 0 (a.add (i*r.size)) r.size=some (intsV ns)) each
  have hlen:((List.range len).map N).length=len:=by simp
  refine ⟨(List.range len).map N,fun ns hns=>?_,by rw [hlen];omega,some a,cap,r.size,by simp,by simpa using hl,fun hne=>?_,?_⟩
  ·obtain ⟨i,hi',rfl⟩:=List.mem_map.1 hns
   exact (hN i (List.mem_range.1 hi')).1
  ·have hpos:0 < len:=by
    rcases Nat.eq_zero_or_pos len with h0|h0
    ·subst h0;simp at hne
    ·exact h0
   obtain ⟨⟨g1,_⟩,g2⟩:=hN 0 hpos
   obtain ⟨_,_,g3⟩:=World.cells?_some g2
   have g4:=g3 0 (by omega)
   rw [List.getElem?_eq_getElem (by simp [intsV,g1];omega)] at g4
   have hs:a.spot=none:=by
    have:(a.add (0*r.size)).add 0=a:=by simp [Addr.add]
    rw [this] at g4;exact addr_spot g4
   refine ⟨a.block,a.off,by cases a;simp_all,id,?_⟩
   have g5:w.cell? a=some (intsV (N 0))[0]:=by
    have:(a.add (0*r.size)).add 0=a:=by simp [Addr.add]
    rwa [this] at g4
   unfold World.cell? at g5
   rw [hs] at g5
   simp at g5
   by_cases hlt:a.block < w.heap.size
   ·exact hlt
   ·rw [Array.getElem?_eq_none (by omega)] at g5;cases g5
  ·refine RelR.of_get fun i y hy=>?_
   have hi':i < len:=by simpa using (List.getElem?_eq_some_iff.1 hy).1
   simp only [List.getElem?_map,List.getElem?_range hi',Option.map_some,Option.some.injEq] at hy
   subst hy
   obtain ⟨⟨g1,_⟩,g2⟩:=hN i hi'
   obtain ⟨_,_,g3⟩:=World.cells?_some g2
   have hs:a.spot=none:=by
    obtain ⟨⟨p1,_⟩,p2⟩:=hN 0 (by omega)
    obtain ⟨_,_,p3⟩:=World.cells?_some p2
    have p4:=p3 0 (by omega)
    rw [List.getElem?_eq_getElem (by simp [intsV,p1];omega)] at p4
    have:(a.add (0*r.size)).add 0=a:=by simp [Addr.add]
    rw [this] at p4;exact addr_spot p4
   have hadd:∀ j,a.add j=⟨a.block,a.off+j,none⟩:=fun j=>by
    unfold Addr.add;split
    ·rename_i hj;subst hj;cases a;simp_all
    ·rfl
   have hrd:∀ q,q < r.size→rdA w (some a) (i*r.size+q)=(intsV (N i))[q]?:=fun q hq=>by
    have:=g3 q hq
    rw [add_add,hadd] at this
    exact this
   cases ha:aggB r.d with
   | true =>
    refine ⟨.agg (intsV (N i)).toArray,⟨_,rfl,relL_ints _ _⟩,by simp [Value.cells,intsV,g1],fun q hq=>?_⟩
    simp only [Nat.zero_add]
    rw [hrd q hq];simp [Value.cells]
   | false =>
    have hs1:=h1 ha
    obtain ⟨z,hz'⟩:=List.length_eq_one_iff.1 (by rw [g1,hs1]:(N i).length=1)
    refine ⟨.int .i64 z,by rw [hz'];rfl,by rw [hs1];rfl,fun q hq=>?_⟩
    simp only [Nat.zero_add]
    rw [hrd q hq,hz']
    have:q=0:=by omega
    subst this;rfl
end
end Go.AL
namespace Go.Proofs.YteefnlbapebamaaGreatDoor
open Go Go.AL Go.ChangeShapes Go.WideShapes Go.ChangeAt Go.RowKit
section
variable {H:Type} {enc:TypeId × Value→H} {W:World} {v:Value} {d:DataW H} {p:List MemPlace}
theorem open_prsR (hv:∃ a l c,v = .slice a l c) (h:DataW.Trod enc Tryz.prog W 0 (fun _=>true) true 22 v d p):∃ m:List Pr,(m.length≤maxLen∧∀ x∈m,i64r x.1)∧Rel (out W) (encPs m) v:=by
 obtain ⟨a,l,c,rfl⟩:=hv
 obtain ⟨n,hn⟩:=h
 obtain ⟨nss,g1,g2,g3⟩:=open_rowsR (T:=tyTab) (st:=Tryz.prog.stoodInHeld) (n:=100) (t:=22) (e:=46) rfl rfl rfl (by kernel_rfl) (by decide) (fun h=>by cases h) hn
 refine ⟨nss.map fun ns=>(ns.headD 0,ns.tail.headD 0),⟨by simpa using g2,fun x hx=>?_⟩,?_⟩
 ·obtain ⟨ns,hns,rfl⟩:=List.mem_map.1 hx
  obtain ⟨hl,hr⟩:=g1 ns hns
  obtain ⟨a,b,rfl⟩:=two_ints hl
  exact hr a (List.mem_cons_self ..)
 ·have:(nss.map fun ns=>(ns.headD 0,ns.tail.headD 0)).map encP=nss.map (rowA true):=by
   rw [List.map_map]
   exact List.map_congr_left fun ns hns=>by
    obtain ⟨a,b,rfl⟩:=two_ints (g1 ns hns).1
    rfl
  unfold encPs
  rw [this]
  exact g3
end
end Go.Proofs.YteefnlbapebamaaGreatDoor
end
