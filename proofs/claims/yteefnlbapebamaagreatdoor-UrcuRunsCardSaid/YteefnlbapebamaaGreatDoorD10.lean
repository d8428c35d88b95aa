/-
  Part 10 of the proof texts: the program logic over the model, then the contracts of the functions that the laws reach. No conditions.
-/
import Derived.Test.YteefnlbapebamaaGreatDoorD9
set_option linter.unusedVariables false
set_option linter.unusedSimpArgs false
set_option maxHeartbeats 2000000
section
set_option maxRecDepth 100000
namespace Go.AL
open Go Go.Proofs
attribute [local irreducible] J
theorem set_take_at {α:Type} [Inhabited α] (l:List α) (k:Nat) (v:α) {q:Nat} (hq:q < l.length):(l.set k v).take (q+1)=(l.set k v).take q++[if q=k then v else at' l (q:Int)]:=by
 rw [List.take_add_one,List.getElem?_eq_getElem (by simpa using hq),at_nat l q hq]
 congr 1
 simp only [List.getElem_set,Option.toList_some]
 by_cases e:q=k
 ·rw [if_pos e.symm,if_pos e]
 ·rw [if_neg (fun h=>e h.symm),if_neg e]
theorem rwith_int (l:List (Int)) (k:Nat) (v:Int) (hl:l.length≤1000):ACalls Tryz.prog 102 [.sl (l.map iv),iv (k:Int),iv v] [] (one (.sl ((l.set k v).map iv)) []):=by
 refine jC Tryz.func102 Tryz.ntmps102 (fun w0 β0 ext hβ=>?_)
 repeat (first|refine jad 7 3 1 rfl rfl rfl rfl ?_|refine jS ?_|refine jD ?_|refine jB ?_)
 refine jloopI (fun q:Nat=>q≤l.length) [1,2,7,11,12,13] (fun q=>[iv (k:Int),iv v,.arr 0 (q+1),.sl (l.map iv),.v (.int .i64 ((l.map iv).length:Int)),.v (.int .i64 (q:Int))])
  (fun q=>[.arr (q+1) 3 1 (((l.set k v).take q).map iv)]) (fun q=>l.length-q) 0 (Nat.zero_le _) rfl rfl (fun q hq=>?_)
 repeat (first|refine jS ?_|refine jD ?_|refine jB ?_)
 refine jc rfl rfl rfl (fun h=>?_) (fun h=>?_)
 ·have h:=of_decide_eq_true h
  rw [List.length_map] at h
  have hq2:q < l.length:=by omega
  have hidx:IntKind.i64.wrap ((q:Int)+1)=((q+1:Nat):Int):=idx_next hq2 (by omega)
  have htk:=set_take_at l k v hq2
  have hln:((l.set k v).take q).length≤1000:=by rw [List.length_take];omega
  repeat (first|refine jS ?_|refine jD ?_|refine jB ?_|refine jI (Int.natCast_nonneg q) h ?_)
  by_cases e:q=k
  ·subst e
   rw [show (((q:Int) == (q:Int)))=true from by simp]
   rw [if_pos rfl] at htk
   repeat (first|refine jS ?_|refine jD ?_|refine jB ?_)
   refine jo rfl rfl (append_enc (enc:=iv) (l:=(l.set q v).take q) v rfl rfl rfl rfl rfl rfl rfl rfl rfl rfl (fun x=>⟨rfl,rfl⟩) rfl (by omega) rfl rfl) rfl rfl ?_
   rw [←htk]
   repeat (first|refine jS ?_|refine jD ?_|refine jB ?_)
   refine jnextI (q+1) hq2 ?_ rfl (by omega)
   show some _=some _
   rw [hidx]
  ·rw [show (((q:Int) == (k:Int)))=false from by rw [beq_eq_false_iff_ne];omega]
   rw [if_neg e] at htk
   repeat (first|refine jS ?_|refine jD ?_|refine jB ?_)
   refine jo rfl rfl (append_enc (enc:=iv) (l:=(l.set k v).take q) (at' l (q:Int)) rfl rfl rfl rfl rfl rfl rfl rfl rfl rfl (fun x=>⟨rfl,rfl⟩) rfl (by omega) rfl rfl) rfl rfl ?_
   rw [←htk]
   repeat (first|refine jS ?_|refine jD ?_|refine jB ?_)
   refine jnextI (q+1) hq2 ?_ rfl (by omega)
   show some _=some _
   rw [hidx]
 ·have h:=of_decide_eq_false h
  rw [List.length_map] at h
  have:q=l.length:=by omega
  subst this
  rw [List.take_of_length_le (by simp)]
  refine jpub 7 rfl rfl rfl rfl ?_
  repeat (first|refine jS ?_|refine jD ?_|refine jB ?_)
  exact jR
theorem rwith_buf (l:List (List Wput)) (k:Nat) (v:List Wput) (hl:l.length≤1000):ACalls Tryz.prog 242 [.sl (l.map encBuf),iv (k:Int),encBuf v] [] (one (.sl ((l.set k v).map encBuf)) []):=by
 refine jC Tryz.func242 Tryz.ntmps242 (fun w0 β0 ext hβ=>?_)
 repeat (first|refine jad 7 159 1 rfl rfl rfl rfl ?_|refine jS ?_|refine jD ?_|refine jB ?_)
 refine jloopI (fun q:Nat=>q≤l.length) [1,2,7,11,12,13] (fun q=>[iv (k:Int),encBuf v,.arr 0 (q+1),.sl (l.map encBuf),.v (.int .i64 ((l.map encBuf).length:Int)),.v (.int .i64 (q:Int))])
  (fun q=>[.arr (q+1) 159 1 (((l.set k v).take q).map encBuf)]) (fun q=>l.length-q) 0 (Nat.zero_le _) rfl rfl (fun q hq=>?_)
 repeat (first|refine jS ?_|refine jD ?_|refine jB ?_)
 refine jc rfl rfl rfl (fun h=>?_) (fun h=>?_)
 ·have h:=of_decide_eq_true h
  rw [List.length_map] at h
  have hq2:q < l.length:=by omega
  have hidx:IntKind.i64.wrap ((q:Int)+1)=((q+1:Nat):Int):=idx_next hq2 (by omega)
  have htk:=set_take_at l k v hq2
  have hln:((l.set k v).take q).length≤1000:=by rw [List.length_take];omega
  repeat (first|refine jS ?_|refine jD ?_|refine jB ?_|refine jI (Int.natCast_nonneg q) h ?_)
  by_cases e:q=k
  ·subst e
   rw [show (((q:Int) == (q:Int)))=true from by simp]
   rw [if_pos rfl] at htk
   repeat (first|refine jS ?_|refine jD ?_|refine jB ?_)
   refine jo rfl rfl (append_enc (enc:=encBuf) (l:=(l.set q v).take q) v rfl rfl rfl rfl rfl rfl rfl rfl rfl rfl (fun x=>⟨rfl,rfl⟩) rfl (by omega) rfl rfl) rfl rfl ?_
   rw [←htk]
   repeat (first|refine jS ?_|refine jD ?_|refine jB ?_)
   refine jnextI (q+1) hq2 ?_ rfl (by omega)
   show some _=some _
   rw [hidx]
  ·rw [show (((q:Int) == (k:Int)))=false from by rw [beq_eq_false_iff_ne];omega]
   rw [if_neg e] at htk
   repeat (first|refine jS ?_|refine jD ?_|refine jB ?_)
   refine jo rfl rfl (append_enc (enc:=encBuf) (l:=(l.set k v).take q) (at' l (q:Int)) rfl rfl rfl rfl rfl rfl rfl rfl rfl rfl (fun x=>⟨rfl,rfl⟩) rfl (by omega) rfl rfl) rfl rfl ?_
   rw [←htk]
   repeat (first|refine jS ?_|refine jD ?_|refine jB ?_)
   refine jnextI (q+1) hq2 ?_ rfl (by omega)
   show some _=some _
   rw [hidx]
 ·have h:=of_decide_eq_false h
  rw [List.length_map] at h
  have:q=l.length:=by omega
  subst this
  rw [List.take_of_length_le (by simp)]
  refine jpub 7 rfl rfl rfl rfl ?_
  repeat (first|refine jS ?_|refine jD ?_|refine jB ?_)
  exact jR
theorem rwith_thr (l:List (Thr)) (k:Nat) (v:Thr) (hl:l.length≤1000):ACalls Tryz.prog 235 [.sl (l.map encThr),iv (k:Int),encThr v] [] (one (.sl ((l.set k v).map encThr)) []):=by
 refine jC Tryz.func235 Tryz.ntmps235 (fun w0 β0 ext hβ=>?_)
 repeat (first|refine jad 7 43 13 rfl rfl rfl rfl ?_|refine jS ?_|refine jD ?_|refine jB ?_)
 refine jloop 2 (fun q:Nat=>q≤l.length) [1,5,7,11,12,13] (fun q=>[iv (k:Int),.ptr 0 0,.arr 1 (q+1),.sl (l.map encThr),.v (.int .i64 ((l.map encThr).length:Int)),.v (.int .i64 (q:Int))])
  (fun q=>[.box 43 (thCells v),.arr (q+1) 43 13 (((l.set k v).take q).map encThr)]) (fun q=>l.length-q) 0 (by show β0.length≤2;rw [hβ];exact Nat.zero_le _) (Nat.zero_le _) rfl rfl (fun q hq=>?_)
 unfold thCells
 repeat (first|refine jS ?_|refine jD ?_|refine jB ?_)
 refine jc rfl rfl rfl (fun h=>?_) (fun h=>?_)
 ·have h:=of_decide_eq_true h
  rw [List.length_map] at h
  have hq2:q < l.length:=by omega
  have hidx:IntKind.i64.wrap ((q:Int)+1)=((q+1:Nat):Int):=idx_next hq2 (by omega)
  have htk:=set_take_at l k v hq2
  have hln:((l.set k v).take q).length≤1000:=by rw [List.length_take];omega
  repeat (first|refine jS ?_|refine jD ?_|refine jB ?_|refine jI (Int.natCast_nonneg q) h ?_)
  by_cases e:q=k
  ·subst e
   rw [show (((q:Int) == (q:Int)))=true from by simp]
   rw [if_pos rfl] at htk
   repeat (first|refine jS ?_|refine jD ?_|refine jB ?_)
   refine jo rfl rfl (append_enc (enc:=encThr) (l:=(l.set q v).take q) v rfl rfl rfl rfl rfl rfl rfl rfl rfl rfl (fun x=>⟨rfl,rfl⟩) rfl (by omega) rfl rfl) rfl rfl ?_
   rw [←htk]
   repeat (first|refine jS ?_|refine jD ?_|refine jB ?_)
   refine jnext (q+1) hq2 (by omega) rfl rfl rfl ?_ ?_
   ·rw [hidx];rfl
   ·rfl
  ·rw [show (((q:Int) == (k:Int)))=false from by rw [beq_eq_false_iff_ne];omega]
   rw [if_neg e] at htk
   repeat (first|refine jS ?_|refine jD ?_|refine jB ?_)
   refine jo rfl rfl (append_enc (enc:=encThr) (l:=(l.set k v).take q) (at' l (q:Int)) rfl rfl rfl rfl rfl rfl rfl rfl rfl rfl (fun x=>⟨rfl,rfl⟩) rfl (by omega) rfl rfl) rfl rfl ?_
   rw [←htk]
   repeat (first|refine jS ?_|refine jD ?_|refine jB ?_)
   refine jnext (q+1) hq2 (by omega) rfl rfl rfl ?_ ?_
   ·rw [hidx];rfl
   ·rfl
 ·have h:=of_decide_eq_false h
  rw [List.length_map] at h
  have:q=l.length:=by omega
  subst this
  rw [List.take_of_length_le (by simp)]
  refine jpub 7 rfl rfl rfl rfl ?_
  repeat (first|refine jS ?_|refine jD ?_|refine jB ?_)
  exact jR
end Go.AL
end
section
set_option maxRecDepth 100000
namespace Go.AL
open Go Go.Proofs
attribute [local irreducible] J
theorem tag3 {m:Mem} {q:Nat} (hr:mRight m=true) (hq:q < m.words.length):at' m.tags (q:Int)=0∨at' m.tags (q:Int)=1∨at' m.tags (q:Int)=2:=by
 obtain ⟨r1,r2,r3,r4⟩:=(mRight_iff m).1 hr
 have:=tag_bd (r4 q (by omega))
 omega
theorem rload_ok (m:Mem) (k:Int) (hr:mRight m=true):ACalls Tryz.prog 55 [encMem m,iv k] [] (one (.tup [iv (mLoad m k).1,iv (mLoad m k).2]) []):=by
 obtain ⟨r1,r2,r3,r4⟩:=(mRight_iff m).1 hr
 have h3:=fun q (hq:q < m.words.length)=>tag3 hr hq
 obtain ⟨ws,ts⟩:=m
 simp only at r1 r2 r3 r4 h3
 unfold encMem mCells ivs
 by_cases g:0≤k∧k < ws.length
 ·obtain ⟨q,rfl⟩:∃ q:Nat,k=q:=⟨k.toNat,by omega⟩
  have hi:inn (q:Int) 0 ((ws.length:Int)-1)=true:=inn_iff.2 ⟨by omega,by omega⟩
  have c1:decide ((q:Int) < 0)=false:=decide_eq_false (by omega)
  have c2:decide ((q:Int)≥((ws.map iv).length:Int))=false:=decide_eq_false (by rw [List.length_map];omega)
  have hqt:(q:Int) < ts.length:=by omega
  have hqw:(q:Int) < ws.length:=by omega
  have h3:=h3 q (by omega)
  have e1:mLoad ⟨ws,ts⟩ (q:Int)=cond (decide (why (at' ts (q:Int))=0)) (at' ws (q:Int),0) (0,why (at' ts (q:Int))):=by
   unfold mLoad mUse
   simp only [hi,cond_true,Int.toNat_natCast]
   rfl
  rw [e1]
  rcases h3 with e|e|e
  ·rw [e]
   refine jC Tryz.func55 Tryz.ntmps55 (fun w0 β0 ext hβ=>?_)
   repeat (first|refine jS ?_|refine jD ?_|refine jB ?_)
   rw [c1]
   repeat (first|refine jS ?_|refine jD ?_|refine jB ?_)
   rw [c2]
   repeat (first|refine jS ?_|refine jD ?_|refine jB ?_|refine jI (Int.natCast_nonneg q) hqt ?_)
   rw [e]
   repeat (first|refine jS ?_|refine jD ?_|refine jB ?_)
   exact jR
  ·rw [e]
   refine jC Tryz.func55 Tryz.ntmps55 (fun w0 β0 ext hβ=>?_)
   repeat (first|refine jS ?_|refine jD ?_|refine jB ?_)
   rw [c1]
   repeat (first|refine jS ?_|refine jD ?_|refine jB ?_)
   rw [c2]
   repeat (first|refine jS ?_|refine jD ?_|refine jB ?_|refine jI (Int.natCast_nonneg q) hqt ?_)
   rw [e]
   repeat (first|refine jS ?_|refine jD ?_|refine jB ?_|refine jI (Int.natCast_nonneg q) hqt ?_)
   rw [e]
   repeat (first|refine jS ?_|refine jD ?_|refine jB ?_|refine jI (l:=ws) (Int.natCast_nonneg q) hqw ?_)
   exact jR
  ·rw [e]
   refine jC Tryz.func55 Tryz.ntmps55 (fun w0 β0 ext hβ=>?_)
   repeat (first|refine jS ?_|refine jD ?_|refine jB ?_)
   rw [c1]
   repeat (first|refine jS ?_|refine jD ?_|refine jB ?_)
   rw [c2]
   repeat (first|refine jS ?_|refine jD ?_|refine jB ?_|refine jI (Int.natCast_nonneg q) hqt ?_)
   rw [e]
   repeat (first|refine jS ?_|refine jD ?_|refine jB ?_|refine jI (Int.natCast_nonneg q) hqt ?_)
   rw [e]
   repeat (first|refine jS ?_|refine jD ?_|refine jB ?_)
   exact jR
 ·have e:inn k 0 ((ws.length:Int)-1)=false:=by
   cases hi:inn k 0 ((ws.length:Int)-1) with
   | false=>rfl
   | true=>have:=inn_iff.1 hi;omega
  have e1:mLoad ⟨ws,ts⟩ k=(0,3):=by
   unfold mLoad mUse
   simp only [e]
   rfl
  rw [e1]
  by_cases g1:k < 0
  ·refine jC Tryz.func55 Tryz.ntmps55 (fun w0 β0 ext hβ=>?_)
   repeat (first|refine jS ?_|refine jD ?_|refine jB ?_)
   rw [show decide (k < 0)=true from decide_eq_true g1]
   repeat (first|refine jS ?_|refine jD ?_|refine jB ?_)
   exact jR
  ·refine jC Tryz.func55 Tryz.ntmps55 (fun w0 β0 ext hβ=>?_)
   repeat (first|refine jS ?_|refine jD ?_|refine jB ?_)
   rw [show decide (k < 0)=false from decide_eq_false g1]
   repeat (first|refine jS ?_|refine jD ?_|refine jB ?_)
   rw [show decide (k≥(((ws.map iv).length:Nat):Int))=true from decide_eq_true (by rw [List.length_map];omega)]
   repeat (first|refine jS ?_|refine jD ?_|refine jB ?_)
   exact jR
theorem rstore_ok (m:Mem) (k v:Int) (hr:mRight m=true):ACalls Tryz.prog 59 [encMem m,iv k,iv v] [] (one (.tup [encMem (mStore m k v).1,iv (mStore m k v).2]) []):=by
 obtain ⟨r1,r2,r3,r4⟩:=(mRight_iff m).1 hr
 have h1:=rload_ok m k hr
 rw [mLoad_two] at h1
 by_cases e:mUse m k=0
 ·obtain ⟨g1,g2⟩:=mUse_ok e
  obtain ⟨q,rfl⟩:∃ q:Nat,k=q:=⟨k.toNat,by omega⟩
  have h2:=rwith_int m.words q v (by omega)
  rw [show (mStore m (q:Int) v)=(⟨m.words.set q v,m.tags⟩,0) by unfold mStore;rw [decide_eq_true e];rfl]
  rw [e] at h1
  unfold encMem mCells ivs at *
  refine jC Tryz.func59 Tryz.ntmps59 (fun w0 β0 ext hβ=>?_)
  repeat (first|refine jS ?_|refine jD ?_|refine jB ?_|refine jV h1 ?_|refine jV h2 ?_)
  exact jR
 ·rw [show (mStore m k v)=(mem0,mUse m k) by unfold mStore;rw [decide_eq_false e];rfl]
  have hd:(mUse m k != 0)=true:=by rw [bne_iff_ne];exact e
  unfold encMem mCells ivs at *
  refine jC Tryz.func59 Tryz.ntmps59 (fun w0 β0 ext hβ=>?_)
  repeat (first|refine jS ?_|refine jD ?_|refine jB ?_|refine jV h1 ?_)
  rw [hd]
  repeat (first|refine jS ?_|refine jD ?_|refine jB ?_)
  exact jR
end Go.AL
end
section
set_option maxRecDepth 100000
namespace Go.AL
open Go Go.Proofs
attribute [local irreducible] J
theorem rmark_ok (m:Mem) (k n tag:Int) (hr:mRight m=true) (ht:tag=1∨tag=2):ACalls Tryz.prog 58 [encMem m,iv k,iv n,iv tag] [] (one (.tup [encMem (mMark m k n tag).1,iv (mMark m k n tag).2]) []):=by
 obtain ⟨r1,r2,r3,r4⟩:=(mRight_iff m).1 hr
 have h3:=fun q (hq:q < m.words.length)=>tag3 hr hq
 obtain ⟨ws,ts⟩:=m
 simp only at r1 r2 r3 r4 h3
 unfold mMark
 simp only
 unfold encMem mCells ivs at *
 simp only
 by_cases g:1≤n∧0≤k∧k < ws.length∧n≤ws.length-k
 ·obtain ⟨q,rfl⟩:∃ q:Nat,k=q:=⟨k.toNat,by omega⟩
  obtain ⟨n,rfl⟩:∃ p:Nat,n=p:=⟨n.toNat,by omega⟩
  have e0:(decide (1≤(n:Int))&&(inn (q:Int) 0 (ws.length-1)&&decide ((n:Int)≤ws.length-(q:Int))))=true:=by
   unfold inn;simp only [Bool.and_eq_true,decide_eq_true_eq];omega
  rw [e0]
  simp only [cond_true,Int.toNat_natCast]
  have c1:decide ((n:Int) < 1)=false:=decide_eq_false (by omega)
  have c2:decide ((q:Int) < 0)=false:=decide_eq_false (by omega)
  have c3:decide ((q:Int)≥((ws.map iv).length:Int))=false:=decide_eq_false (by rw [List.length_map];omega)
  have c4:decide ((n:Int) > IntKind.i64.wrap (((ws.map iv).length:Int)-q))=false:=decide_eq_false (by rw [List.length_map,wrap_id]<;>omega)
  have hle:q+n≤ts.length:=by omega
  have htl:ts.length≤160:=by omega
  have mk0:∀ t,mkTags ts q 0 t=ts:=fun t=>by simp [mkTags]
  have hwe:IntKind.i64.wrap ((q:Int)+n)=((q+n:Nat):Int):=by rw [wrap_id]<;>omega
  rcases ht with rfl|rfl
  all_goals (
   refine jC Tryz.func58 Tryz.ntmps58 (fun w0 β0 ext hβ=>?_)
   repeat (first|refine jS ?_|refine jD ?_|refine jB ?_)
   rw [c1]
   repeat (first|refine jS ?_|refine jD ?_|refine jB ?_)
   rw [c2]
   repeat (first|refine jS ?_|refine jD ?_|refine jB ?_)
   rw [c3]
   repeat (first|refine jS ?_|refine jD ?_|refine jB ?_)
   rw [c4]
   repeat (first|refine jS ?_|refine jD ?_|refine jB ?_)
  )
  ·refine jloopI (fun i:Nat=>i≤n∧mkBad ts q 1 i=0) [1,2,3,4,8,9,10,11] (fun i=>[iv (q:Int),iv (n:Int),iv 1,.ptr 0 0,.ptr 1 0,iv 0,.sl ((mkTags ts q i 1).map iv),iv ((q+i:Nat):Int)])
    (fun i=>[.box 26 [.sl (ws.map iv),.sl (ts.map iv)],.box 26 [.slf [],.slf []]]) (fun i=>n-i) 0 ⟨Nat.zero_le _,rfl⟩ (by rw [mk0];rfl) rfl (fun i hi=>?_)
   obtain ⟨hi,hz⟩:=hi
   repeat (first|refine jS ?_|refine jD ?_|refine jB ?_)
   rw [hwe]
   by_cases hlt:i < n
   ·rw [show decide (((q+i:Nat):Int) < ((q+n:Nat):Int))=true from decide_eq_true (by omega)]
    have hqt:((q+i:Nat):Int) < ts.length:=by omega
    have hln:=mkTags_len (tags:=ts) (k:=q) (n:=i) (tag:=1) (by omega)
    have hsu:=mkTags_succ (tags:=ts) (k:=q) (n:=i) (tag:=1) (by omega)
    have hw:=rwith_int (mkTags ts q i 1) (q+i) 1 (by omega)
    rw [hsu] at hw
    have hst:=fun h=>mkBad_stop (tags:=ts) (k:=q) (tag:=1) hz h (n-(i+1))
    rw [show i+1+(n-(i+1))=n by omega,show g0 ts (q+i)=at' ts ((q+i:Nat):Int) from rfl] at hst
    have hgo:=fun h=>mkBad_go (tags:=ts) (k:=q) (tag:=1) hz h
    rw [show g0 ts (q+i)=at' ts ((q+i:Nat):Int) from rfl] at hgo
    have hidx:IntKind.i64.wrap (((q+i:Nat):Int)+1)=((q+(i+1):Nat):Int):=by rw [wrap_id]<;>omega
    by_cases e:at' ts ((q+i:Nat):Int)=1
    ·have hB:=hst (by rw [e];decide)
     rw [e] at hB
     have hB0:decide (mkBad ts q 1 n=0)=false:=decide_eq_false (by rw [hB];decide)
     rw [hB0]
     simp only [cond_false]
     rw [hB]
     repeat (first|refine jS ?_|refine jD ?_|refine jB ?_|refine jI (Int.natCast_nonneg (q+i)) hqt ?_)
     rw [e]
     repeat (first|refine jS ?_|refine jD ?_|refine jB ?_)
     exact jR
    ·have hd:((at' ts ((q+i:Nat):Int)) == 1)=false:=by rw [beq_eq_false_iff_ne];exact e
     repeat (first|refine jS ?_|refine jD ?_|refine jB ?_|refine jI (Int.natCast_nonneg (q+i)) hqt ?_)
     rw [hd]
     repeat (first|refine jS ?_|refine jD ?_|refine jB ?_|refine jV hw ?_)
     rw [hidx]
     refine jnextI (i+1) ⟨by omega,hgo (by unfold mkE;rw [decide_eq_false e];rfl)⟩ rfl rfl (by omega)
   ·have:i=n:=by omega
    subst this
    rw [show decide (((q+i:Nat):Int) < ((q+i:Nat):Int))=false from decide_eq_false (by omega)]
    rw [show decide (mkBad ts q 1 i=0)=true from decide_eq_true hz]
    simp only [cond_true]
    repeat (first|refine jS ?_|refine jD ?_|refine jB ?_)
    exact jR
  ·refine jloopI (fun i:Nat=>i≤n∧mkBad ts q 2 i=0) [1,2,3,4,8,9,10,11] (fun i=>[iv (q:Int),iv (n:Int),iv 2,.ptr 0 0,.ptr 1 0,iv 0,.sl ((mkTags ts q i 2).map iv),iv ((q+i:Nat):Int)])
    (fun i=>[.box 26 [.sl (ws.map iv),.sl (ts.map iv)],.box 26 [.slf [],.slf []]]) (fun i=>n-i) 0 ⟨Nat.zero_le _,rfl⟩ (by rw [mk0];rfl) rfl (fun i hi=>?_)
   obtain ⟨hi,hz⟩:=hi
   repeat (first|refine jS ?_|refine jD ?_|refine jB ?_)
   rw [hwe]
   by_cases hlt:i < n
   ·rw [show decide (((q+i:Nat):Int) < ((q+n:Nat):Int))=true from decide_eq_true (by omega)]
    have hqt:((q+i:Nat):Int) < ts.length:=by omega
    have hln:=mkTags_len (tags:=ts) (k:=q) (n:=i) (tag:=2) (by omega)
    have hsu:=mkTags_succ (tags:=ts) (k:=q) (n:=i) (tag:=2) (by omega)
    have hw:=rwith_int (mkTags ts q i 2) (q+i) 2 (by omega)
    rw [hsu] at hw
    have hst:=fun h=>mkBad_stop (tags:=ts) (k:=q) (tag:=2) hz h (n-(i+1))
    rw [show i+1+(n-(i+1))=n by omega,show g0 ts (q+i)=at' ts ((q+i:Nat):Int) from rfl] at hst
    have hgo:=fun h=>mkBad_go (tags:=ts) (k:=q) (tag:=2) hz h
    rw [show g0 ts (q+i)=at' ts ((q+i:Nat):Int) from rfl] at hgo
    have hidx:IntKind.i64.wrap (((q+i:Nat):Int)+1)=((q+(i+1):Nat):Int):=by rw [wrap_id]<;>omega
    rcases h3 (q+i) (by omega) with e|e|e
    ·have hB:=hst (by rw [e];decide)
     rw [e] at hB
     have hB0:decide (mkBad ts q 2 n=0)=false:=decide_eq_false (by rw [hB];decide)
     rw [hB0]
     simp only [cond_false]
     rw [hB]
     repeat (first|refine jS ?_|refine jD ?_|refine jB ?_|refine jI (Int.natCast_nonneg (q+i)) hqt ?_)
     rw [e]
     repeat (first|refine jS ?_|refine jD ?_|refine jB ?_)
     exact jR
    ·repeat (first|refine jS ?_|refine jD ?_|refine jB ?_|refine jI (Int.natCast_nonneg (q+i)) hqt ?_)
     rw [e]
     repeat (first|refine jS ?_|refine jD ?_|refine jB ?_|refine jI (Int.natCast_nonneg (q+i)) hqt ?_)
     rw [e]
     repeat (first|refine jS ?_|refine jD ?_|refine jB ?_|refine jV hw ?_)
     rw [hidx]
     refine jnextI (i+1) ⟨by omega,hgo (by rw [e];rfl)⟩ rfl rfl (by omega)
    ·have hB:=hst (by rw [e];decide)
     rw [e] at hB
     have hB0:decide (mkBad ts q 2 n=0)=false:=decide_eq_false (by rw [hB];decide)
     rw [hB0]
     simp only [cond_false]
     rw [hB]
     repeat (first|refine jS ?_|refine jD ?_|refine jB ?_|refine jI (Int.natCast_nonneg (q+i)) hqt ?_)
     rw [e]
     repeat (first|refine jS ?_|refine jD ?_|refine jB ?_|refine jI (Int.natCast_nonneg (q+i)) hqt ?_)
     rw [e]
     repeat (first|refine jS ?_|refine jD ?_|refine jB ?_)
     exact jR
   ·have:i=n:=by omega
    subst this
    rw [show decide (((q+i:Nat):Int) < ((q+i:Nat):Int))=false from decide_eq_false (by omega)]
    rw [show decide (mkBad ts q 2 i=0)=true from decide_eq_true hz]
    simp only [cond_true]
    repeat (first|refine jS ?_|refine jD ?_|refine jB ?_)
    exact jR
 ·have e0:(decide (1≤n)&&(inn k 0 (ws.length-1)&&decide (n≤ws.length-k)))=false:=by
   rw [Bool.eq_false_iff];intro h;apply g
   unfold inn at h;simp only [Bool.and_eq_true,decide_eq_true_eq] at h;omega
  rw [e0]
  have hml:((ws.map iv).length:Int)=ws.length:=by rw [List.length_map]
  have hwr:0≤k→k < ws.length→IntKind.i64.wrap (((ws.map iv).length:Int)-k)=ws.length-k:=fun a b=>by rw [hml,wrap_id]<;>omega
  refine jC Tryz.func58 Tryz.ntmps58 (fun w0 β0 ext hβ=>?_)
  repeat' (first|refine jS ?_|refine jD ?_|refine jB ?_|refine jo rfl rfl (index_at rfl rfl rfl rfl rfl rfl rfl rfl (by omega) (by omega)) rfl rfl ?_|(refine jc rfl rfl rfl (fun h=>?_) (fun h=>?_)<;>(try simp only [decide_eq_true_eq,decide_eq_false_iff_not,beq_iff_eq,beq_eq_false_iff_ne,bne_iff_ne,bne_eq_false_iff_eq,ne_eq] at h)<;>(try (exfalso;omega)))|(refine jg rfl rfl rfl rfl (fun h=>?_) (fun h=>?_)<;>(fail_if_success (exact absurd h (by decide)))<;>(try simp only [decide_eq_true_eq,decide_eq_false_iff_not,beq_iff_eq,beq_eq_false_iff_ne,bne_iff_ne,bne_eq_false_iff_eq,ne_eq] at h)<;>(try (exfalso;omega))))
  all_goals exact jR
end Go.AL
end
section
set_option maxRecDepth 100000
namespace Go.AL
open Go Go.Proofs
attribute [local irreducible] J
theorem newest_take (b:List Wput) (a:Int) {q:Nat} (h:q < b.length):newest (b.take (q+1)) a=if (at' b (q:Int)).loc=a then some (at' b (q:Int)).val else newest (b.take q) a:=by
 unfold newest
 rw [at_nat b q h,List.take_add_one,List.getElem?_eq_getElem h]
 simp only [Option.toList_some,List.reverse_append,List.reverse_cons,List.reverse_nil,List.nil_append,List.cons_append,List.find?_cons]
 by_cases e:b[q].loc=a
 ·rw [decide_eq_true e,if_pos e];rfl
 ·rw [decide_eq_false e,if_neg e]
theorem rnewest_ok (b:List Wput) (a:Int) (hb:b.length≤1000000):ACalls Tryz.prog 274 [.sl (b.map encPut),iv a] [] (one (.tup [iv ((newest b a).getD 0),bv (newest b a).isSome]) []):=by
 refine jC Tryz.func274 Tryz.ntmps274 (fun w0 β0 ext hβ=>?_)
 repeat (first|refine jS ?_|refine jD ?_|refine jB ?_)
 refine jloop 0 (fun q:Nat=>q≤b.length) [1,6,7,10,11,12] (fun q=>[iv a,iv ((newest (b.take q) a).getD 0),bv (newest (b.take q) a).isSome,.sl (b.map encPut),.v (.int .i64 ((b.map encPut).length:Int)),.v (.int .i64 (q:Int))])
  (fun q=>[]) (fun q=>b.length-q) 0 (by show β0.length≤0;rw [hβ];exact Nat.le_refl _) (Nat.zero_le _) rfl rfl (fun q hq=>?_)
 repeat (first|refine jS ?_|refine jD ?_|refine jB ?_)
 refine jc rfl rfl rfl (fun h=>?_) (fun h=>?_)
 ·have h:=of_decide_eq_true h
  rw [List.length_map] at h
  have hq2:q < b.length:=by omega
  have hidx:IntKind.i64.wrap ((q:Int)+1)=((q+1:Nat):Int):=idx_next hq2 (by omega)
  have hnw:=newest_take b a hq2
  have hx:encPut (at' b (q:Int)) = .agg [iv (at' b (q:Int)).loc,iv (at' b (q:Int)).val]:=rfl
  repeat (first|refine jS ?_|refine jD ?_|refine jB ?_|refine jI (Int.natCast_nonneg q) h ?_)
  by_cases e:(at' b (q:Int)).loc=a
  ·rw [if_pos e] at hnw
   rw [show (((at' b (q:Int)).loc == a))=true from by simpa using e]
   repeat (first|refine jS ?_|refine jD ?_|refine jB ?_)
   refine jnext (q+1) hq2 (by omega) rfl rfl rfl ?_ rfl
   rw [hidx,hnw];rfl
  ·rw [if_neg e] at hnw
   rw [show (((at' b (q:Int)).loc == a))=false from by rw [beq_eq_false_iff_ne];exact e]
   repeat (first|refine jS ?_|refine jD ?_|refine jB ?_)
   refine jnext (q+1) hq2 (by omega) rfl rfl rfl ?_ rfl
   rw [hidx,hnw];rfl
 ·have h:=of_decide_eq_false h
  rw [List.length_map] at h
  have:q=b.length:=by omega
  subst this
  rw [List.take_length]
  repeat (first|refine jS ?_|refine jD ?_|refine jB ?_)
  exact jR
theorem rpush_ok (b:List Wput) (p:Wput) (hb:b.length≤1000):ACalls Tryz.prog 275 [.sl (b.map encPut),encPut p] [] (one (.sl ((b++[p]).map encPut)) []):=by
 rw [show encPut p = .agg [iv p.loc,iv p.val] from rfl]
 refine jC Tryz.func275 Tryz.ntmps275 (fun w0 β0 ext hβ=>?_)
 repeat (first|refine jad 5 222 2 rfl rfl rfl rfl ?_|refine jS ?_|refine jD ?_|refine jB ?_)
 refine jo rfl rfl (append_encs (enc:=encPut) (l:=[]) (l2:=b) rfl rfl rfl rfl rfl rfl rfl rfl rfl (fun x=>⟨rfl,rfl⟩) rfl (by simp;omega) rfl rfl) rfl rfl ?_
 repeat (first|refine jS ?_|refine jD ?_|refine jB ?_)
 refine jo rfl rfl (append_enc (enc:=encPut) (l:=b) p rfl rfl rfl rfl rfl rfl rfl rfl rfl rfl (fun x=>⟨rfl,rfl⟩) rfl (by omega) rfl rfl) rfl rfl ?_
 repeat (first|refine jS ?_|refine jD ?_|refine jB ?_)
 exact jR
theorem rest_take (b:List Wput) {q:Nat} (h:q < b.length):(b.take (q+1)).tail=if 0 < q then (b.take q).tail++[at' b (q:Int)] else (b.take q).tail:=by
 rw [at_nat b q h,List.take_add_one,List.getElem?_eq_getElem h]
 cases b with
 | nil=>simp at h
 | cons x r =>
  cases q with
  | zero=>simp
  | succ q=>simp
theorem rrest_ok (b:List Wput) (hb:b.length≤1000):ACalls Tryz.prog 243 [.sl (b.map encPut)] [] (one (.sl (b.tail.map encPut)) []):=by
 refine jC Tryz.func243 Tryz.ntmps243 (fun w0 β0 ext hβ=>?_)
 repeat (first|refine jad 3 222 2 rfl rfl rfl rfl ?_|refine jS ?_|refine jD ?_|refine jB ?_)
 refine jloop (ι:=Nat × Nat) 1 (fun z=>z.1≤b.length) [3,7,8,9] (fun z=>[.arr 0 z.2,.sl (b.map encPut),.v (.int .i64 ((b.map encPut).length:Int)),.v (.int .i64 (z.1:Int))])
  (fun z=>[.arr z.2 222 2 (((b.take z.1).tail).map encPut)]) (fun z=>b.length-z.1) (0,1) (by show β0.length≤1;rw [hβ];exact Nat.zero_le _) (Nat.zero_le _) rfl rfl (fun z hz=>?_)
 obtain ⟨q,gn⟩:=z
 simp only at hz ⊢
 repeat (first|refine jS ?_|refine jD ?_|refine jB ?_)
 refine jc rfl rfl rfl (fun h=>?_) (fun h=>?_)
 ·have h:=of_decide_eq_true h
  rw [List.length_map] at h
  have hq2:q < b.length:=by omega
  have hidx:IntKind.i64.wrap ((q:Int)+1)=((q+1:Nat):Int):=idx_next hq2 (by omega)
  have htk:=rest_take b hq2
  have hln:((b.take q).tail).length≤1000:=by rw [List.length_tail,List.length_take];omega
  repeat (first|refine jS ?_|refine jD ?_|refine jB ?_|refine jI (Int.natCast_nonneg q) h ?_)
  by_cases e:0 < q
  ·rw [if_pos e] at htk
   rw [show decide ((q:Int) > 0)=true from decide_eq_true (by omega)]
   repeat (first|refine jS ?_|refine jD ?_|refine jB ?_)
   refine jo rfl rfl (append_enc (enc:=encPut) (l:=(b.take q).tail) (at' b (q:Int)) rfl rfl rfl rfl rfl rfl rfl rfl rfl rfl (fun x=>⟨rfl,rfl⟩) rfl (by omega) rfl rfl) rfl rfl ?_
   rw [←htk]
   repeat (first|refine jS ?_|refine jD ?_|refine jB ?_)
   refine jnext (q+1,gn+1) hq2 (by simp only;omega) rfl rfl rfl ?_ rfl
   rw [hidx]
  ·rw [if_neg e] at htk
   rw [show decide ((q:Int) > 0)=false from decide_eq_false (by omega)]
   repeat (first|refine jS ?_|refine jD ?_|refine jB ?_)
   refine jnext (q+1,gn) hq2 (by simp only;omega) rfl rfl rfl ?_ ?_
   ·rw [hidx]
   ·simp only;rw [htk]
 ·have h:=of_decide_eq_false h
  rw [List.length_map] at h
  have:q=b.length:=by omega
  subst this
  rw [List.take_length]
  refine jpub 3 rfl rfl rfl rfl ?_
  repeat (first|refine jS ?_|refine jD ?_|refine jB ?_)
  exact jR
theorem rtload_ok (t:Tso) (k:Nat) (a:Int) (h:TsR t) (hk:k < t.bufs.length):ACalls Tryz.prog 239 [encTso t,iv (k:Int),iv a] [] (one (.tup [iv (tsLoad t k a).1,iv (tsLoad t k a).2]) []):=by
 have h2:=rload_ok t.mem a h.mem
 have h3:=rnewest_ok (bufAt t k) a (by rw [bufAt_at];exact h.size.puts _ (at_mem hk))
 unfold tsLoad
 rw [bufAt_at] at *
 have hk1:(k:Int) < t.bufs.length:=by omega
 unfold encTso tCells ivs
 unfold encMem mCells ivs at h2
 generalize mLoad t.mem a=ld at *
 obtain ⟨v,e⟩:=ld
 simp only at *
 generalize hbb:at' t.bufs (k:Int)=bb at *
 by_cases he:e=0
 ·subst he
  refine jC Tryz.func239 Tryz.ntmps239 (fun w0 β0 ext hβ=>?_)
  repeat (first|refine jS ?_|refine jD ?_|refine jB ?_|refine jV h2 ?_|refine jI (Int.natCast_nonneg k) hk1 ?_)
  rw [hbb]
  repeat (first|refine jS ?_|refine jD ?_|refine jB ?_|refine jV h3 ?_)
  cases newest bb a
  all_goals (
   repeat (first|refine jS ?_|refine jD ?_|refine jB ?_)
  )
  all_goals exact jR
 ·have hd:(e != 0)=true:=by rw [bne_iff_ne];exact he
  rw [decide_eq_false he]
  refine jC Tryz.func239 Tryz.ntmps239 (fun w0 β0 ext hβ=>?_)
  repeat (first|refine jS ?_|refine jD ?_|refine jB ?_|refine jV h2 ?_)
  rw [hd]
  repeat (first|refine jS ?_|refine jD ?_|refine jB ?_)
  exact jR
theorem rtstore_ok (t:Tso) (k:Nat) (a v:Int) (h:TsR t) (hk:k < t.bufs.length):ACalls Tryz.prog 240 [encTso t,iv (k:Int),iv a,iv v] [] (one (.tup [encTso (tsStore t k a v).1,iv (tsStore t k a v).2]) []):=by
 have h2:=rstore_ok t.mem a v h.mem
 have hbl:=h.size.puts _ (at_mem hk)
 have hb8:=(h.put _ (at_mem hk)).1
 have hsz:=h.sz
 have h3:=rpush_ok (bufAt t k) ⟨a,v⟩ (by rw [bufAt_at];omega)
 have h4:=fun b=>rwith_buf t.bufs k b (by omega)
 unfold tsStore
 rw [bufAt_at] at *
 have hk1:(k:Int) < t.bufs.length:=by omega
 unfold encTso tCells ivs
 unfold encMem mCells ivs at h2
 generalize mStore t.mem a v=ld at *
 obtain ⟨⟨ws,ts⟩,e⟩:=ld
 simp only at *
 generalize hbb:at' t.bufs (k:Int)=bb at *
 have h4:=h4 (bb++[⟨a,v⟩])
 unfold encBuf at h4
 rw [show encPut ⟨a,v⟩ = .agg [iv a,iv v] from rfl] at h3
 by_cases he:e=0
 ·subst he
  have hd2:(t.depth == 0)=decide (t.depth=0):=rfl
  cases hz:decide (t.depth=0) with
  | true =>
   rw [hz] at hd2
   have hz0:=of_decide_eq_true hz
   refine jC Tryz.func240 Tryz.ntmps240 (fun w0 β0 ext hβ=>?_)
   repeat (first|refine jS ?_|refine jD ?_|refine jB ?_|refine jV h2 ?_)
   rw [hd2]
   repeat (first|refine jS ?_|refine jD ?_|refine jB ?_)
   simp only [decide_true,cond_true]
   rw [hz0]
   exact jR
  | false =>
   rw [hz] at hd2
   have hf2:((((bb.map encPut).length:Nat):Int) == t.depth)=decide ((bb.length:Int)=t.depth):=by rw [List.length_map];rfl
   cases hf:decide ((bb.length:Int)=t.depth) with
   | true =>
    rw [hf] at hf2
    refine jC Tryz.func240 Tryz.ntmps240 (fun w0 β0 ext hβ=>?_)
    repeat (first|refine jS ?_|refine jD ?_|refine jB ?_|refine jV h2 ?_)
    rw [hd2]
    repeat (first|refine jS ?_|refine jD ?_|refine jB ?_|refine jI (Int.natCast_nonneg k) hk1 ?_)
    rw [hbb]
    repeat (first|refine jS ?_|refine jD ?_|refine jB ?_)
    rw [hf2]
    repeat (first|refine jS ?_|refine jD ?_|refine jB ?_)
    exact jR
   | false =>
    rw [hf] at hf2
    refine jC Tryz.func240 Tryz.ntmps240 (fun w0 β0 ext hβ=>?_)
    repeat (first|refine jS ?_|refine jD ?_|refine jB ?_|refine jV h2 ?_)
    rw [hd2]
    repeat (first|refine jS ?_|refine jD ?_|refine jB ?_|refine jI (Int.natCast_nonneg k) hk1 ?_)
    rw [hbb]
    repeat (first|refine jS ?_|refine jD ?_|refine jB ?_)
    rw [hf2]
    repeat (first|refine jS ?_|refine jD ?_|refine jB ?_|refine jV h3 ?_|refine jV h4 ?_)
    exact jR
 ·have hd:(e != 0)=true:=by rw [bne_iff_ne];exact he
  rw [decide_eq_false he]
  refine jC Tryz.func240 Tryz.ntmps240 (fun w0 β0 ext hβ=>?_)
  repeat (first|refine jS ?_|refine jD ?_|refine jB ?_|refine jV h2 ?_)
  rw [hd]
  repeat (first|refine jS ?_|refine jD ?_|refine jB ?_)
  exact jR
theorem rdrop_ok (t:Tso) (k:Nat) (h:TsR t) (hk:k < t.bufs.length):ACalls Tryz.prog 213 [encTso t,iv (k:Int)] [] (one (encTso { t with bufs:=t.bufs.set k (bufAt t k).tail }) []):=by
 have hb8:=(h.put _ (at_mem hk)).1
 have hsz:=h.sz
 have h3:=rrest_ok (bufAt t k) (by rw [bufAt_at];omega)
 have h4:=rwith_buf t.bufs k (bufAt t k).tail (by omega)
 rw [bufAt_at] at *
 have hk1:(k:Int) < t.bufs.length:=by omega
 unfold encTso tCells ivs
 unfold encBuf at h4
 refine jC Tryz.func213 Tryz.ntmps213 (fun w0 β0 ext hβ=>?_)
 repeat (first|refine jS ?_|refine jB ?_)
 refine jdrawPT [(0,.p),(1,.r),(2,.p),(3,.p),(4,.r),(5,.p),(6,.p),(7,.p),(8,.p),(9,.p),(10,.p),(11,.m)] rfl (by kernel_rfl) ?_
 repeat (first|refine jS ?_|refine jD ?_|refine jB ?_|refine jI (Int.natCast_nonneg k) hk1 ?_|refine jV h3 ?_|refine jV h4 ?_)
 exact jR
end Go.AL
end
section
set_option maxRecDepth 100000
namespace Go.AL
open Go Go.Proofs
attribute [local irreducible] J
theorem rlocked_ok (t:Tso) (k:Nat) (kd a x y:Int) (h:TsR t) (hk:k < t.bufs.length) (hkd:kd=0∨kd=1∨kd=2) :
  ACalls Tryz.prog 241 [encTso t,iv (k:Int),iv kd,iv a,iv x,iv y] [] (one (.tup [encTso (tsLocked t k kd a x y).1,iv (tsLocked t k kd a x y).2.1,iv (tsLocked t k kd a x y).2.2]) []):=by
 have h2:=rload_ok t.mem a h.mem
 have h3:=fun v=>rstore_ok t.mem a v h.mem
 unfold tsLocked
 rw [bufAt_at] at *
 have hk1:(k:Int) < t.bufs.length:=by omega
 unfold encTso tCells ivs
 unfold encMem mCells ivs at h2
 generalize mLoad t.mem a=ld at *
 obtain ⟨v,e⟩:=ld
 simp only at *
 have h3:=h3 (become kd v x y)
 generalize mStore t.mem a (become kd v x y)=st at *
 obtain ⟨⟨ws,ts⟩,e2⟩:=st
 unfold encMem mCells ivs at h3
 simp only at *
 generalize hbb:at' t.bufs (k:Int)=bb at *
 have hl:decide ((((bb.map encPut).length:Nat):Int) > 0) = !decide (bb.length=0):=by rw [List.length_map];exact dec_not (by omega)
 cases hz:decide (bb.length=0) with
 | false =>
  rw [hz] at hl
  refine jC Tryz.func241 Tryz.ntmps241 (fun w0 β0 ext hβ=>?_)
  repeat (first|refine jS ?_|refine jD ?_|refine jB ?_|refine jI (Int.natCast_nonneg k) hk1 ?_)
  rw [hbb]
  repeat (first|refine jS ?_|refine jD ?_|refine jB ?_)
  rw [hl]
  repeat (first|refine jS ?_|refine jD ?_|refine jB ?_)
  exact jR
 | true =>
  rw [hz] at hl
  by_cases he:e=0
  ·subst he
   rcases hkd with rfl|rfl|rfl
   ·by_cases hv:v=x
    ·have hq:become 0 v x y=y:=by unfold become;rw [decide_eq_true hv];rfl
     rw [hq] at h3
     refine jC Tryz.func241 Tryz.ntmps241 (fun w0 β0 ext hβ=>?_)
     repeat (first|refine jS ?_|refine jD ?_|refine jB ?_|refine jI (Int.natCast_nonneg k) hk1 ?_)
     rw [hbb]
     repeat (first|refine jS ?_|refine jD ?_|refine jB ?_)
     rw [hl]
     repeat (first|refine jS ?_|refine jD ?_|refine jB ?_|refine jV h2 ?_)
     rw [show ((v == x))=true from by simpa using hv]
     repeat (first|refine jS ?_|refine jD ?_|refine jB ?_|refine jV h3 ?_)
     exact jR
    ·have hq:become 0 v x y=v:=by unfold become;rw [decide_eq_false hv];rfl
     rw [hq] at h3
     refine jC Tryz.func241 Tryz.ntmps241 (fun w0 β0 ext hβ=>?_)
     repeat (first|refine jS ?_|refine jD ?_|refine jB ?_|refine jI (Int.natCast_nonneg k) hk1 ?_)
     rw [hbb]
     repeat (first|refine jS ?_|refine jD ?_|refine jB ?_)
     rw [hl]
     repeat (first|refine jS ?_|refine jD ?_|refine jB ?_|refine jV h2 ?_)
     rw [show ((v == x))=false from by rw [beq_eq_false_iff_ne];exact hv]
     repeat (first|refine jS ?_|refine jD ?_|refine jB ?_|refine jV h3 ?_)
     exact jR
   ·refine jC Tryz.func241 Tryz.ntmps241 (fun w0 β0 ext hβ=>?_)
    repeat (first|refine jS ?_|refine jD ?_|refine jB ?_|refine jI (Int.natCast_nonneg k) hk1 ?_)
    rw [hbb]
    repeat (first|refine jS ?_|refine jD ?_|refine jB ?_)
    rw [hl]
    repeat (first|refine jS ?_|refine jD ?_|refine jB ?_|refine jV h2 ?_|refine jV h3 ?_)
    exact jR
   ·refine jC Tryz.func241 Tryz.ntmps241 (fun w0 β0 ext hβ=>?_)
    repeat (first|refine jS ?_|refine jD ?_|refine jB ?_|refine jI (Int.natCast_nonneg k) hk1 ?_)
    rw [hbb]
    repeat (first|refine jS ?_|refine jD ?_|refine jB ?_)
    rw [hl]
    repeat (first|refine jS ?_|refine jD ?_|refine jB ?_|refine jV h2 ?_|refine jV h3 ?_)
    exact jR
  ·have hd:(e != 0)=true:=by rw [bne_iff_ne];exact he
   rw [decide_eq_false he]
   refine jC Tryz.func241 Tryz.ntmps241 (fun w0 β0 ext hβ=>?_)
   repeat (first|refine jS ?_|refine jD ?_|refine jB ?_|refine jI (Int.natCast_nonneg k) hk1 ?_)
   rw [hbb]
   repeat (first|refine jS ?_|refine jD ?_|refine jB ?_)
   rw [hl]
   repeat (first|refine jS ?_|refine jD ?_|refine jB ?_|refine jV h2 ?_)
   rw [hd]
   repeat (first|refine jS ?_|refine jD ?_|refine jB ?_)
   exact jR
def rCall (t:Thr) (to:Int):Thr × Int:=cond (decide (t.frames.length=6)) (thr0,13) ({ t with frames:=t.frames++[⟨t.pc+1,[g0 t.regs 4,g0 t.regs 5,g0 t.regs 6,g0 t.regs 7]⟩],pc:=to },0)
theorem rcall_ok (t:Thr) (to:Int) (hf:t.frames.length≤1000) (hp:0≤t.pc∧t.pc≤1000):ACalls Tryz.prog 236 [encThr t,iv to] [] (one (.tup [resThr (rCall t to),iv (rCall t to).2]) []):=by
 have hw:IntKind.i64.wrap (t.pc+1)=t.pc+1:=by rw [wrap_id]<;>omega
 have e2:((((t.frames.map encFrm).length:Nat):Int) == 6)=decide (t.frames.length=6):=by rw [List.length_map,int_beq];exact decide_eq_decide.2 (by omega)
 unfold rCall
 cases h6:decide (t.frames.length=6) with
 | true =>
  rw [h6] at e2
  unfold encThr thCells
  refine jC Tryz.func236 Tryz.ntmps236 (fun w0 β0 ext hβ=>?_)
  repeat (first|refine jS ?_|refine jD ?_|refine jB ?_)
  rw [e2]
  repeat (first|refine jS ?_|refine jD ?_|refine jB ?_)
  exact jR
 | false =>
  rw [h6] at e2
  unfold encThr thCells
  refine jC Tryz.func236 Tryz.ntmps236 (fun w0 β0 ext hβ=>?_)
  repeat (first|refine jS ?_|refine jD ?_|refine jB ?_)
  rw [e2]
  repeat (first|refine jad 6 174 5 rfl rfl rfl rfl ?_|refine jS ?_|refine jD ?_|refine jB ?_|refine jo rfl rfl (index_arr rfl rfl rfl rfl rfl (by decide) (by decide)) rfl rfl ?_)
  refine jo rfl rfl (append_encs (enc:=encFrm) (l:=[]) (l2:=t.frames) rfl rfl rfl rfl rfl rfl rfl rfl rfl (fun x=>⟨rfl,rfl⟩) rfl (by simp;omega) rfl rfl) rfl rfl ?_
  repeat (first|refine jS ?_|refine jD ?_|refine jB ?_|refine jo rfl rfl (index_arr rfl rfl rfl rfl rfl (by decide) (by decide)) rfl rfl ?_)
  rw [hw]
  repeat (first|refine jS ?_|refine jD ?_|refine jB ?_|refine jo rfl rfl (index_arr rfl rfl rfl rfl rfl (by decide) (by decide)) rfl rfl ?_)
  refine jo rfl rfl (append_enc (enc:=encFrm) (l:=t.frames) ⟨t.pc+1,[g0 t.regs 4,g0 t.regs 5,g0 t.regs 6,g0 t.regs 7]⟩ rfl rfl rfl rfl rfl rfl rfl rfl rfl rfl (fun x=>⟨rfl,rfl⟩) rfl (by omega) rfl rfl) rfl rfl ?_
  repeat (first|refine jS ?_|refine jD ?_|refine jB ?_)
  exact jR
end Go.AL
end
section
set_option maxRecDepth 100000
namespace Go.AL
open Go Go.Proofs
attribute [local irreducible] J
def rBack (t:Thr):Thr × Int:=match t.frames.getLast? with
 | none=>(thr0,8)
 | some f=>({ t with frames:=t.frames.dropLast,pc:=f.back,regs:=[g0 t.regs 0,g0 t.regs 1,g0 t.regs 2,g0 t.regs 3,g0 f.kept 0,g0 f.kept 1,g0 f.kept 2,g0 f.kept 3] },0)
set_option maxHeartbeats 2000000 in
theorem rback_ok (t:Thr) (hf:t.frames.length≤1000):ACalls Tryz.prog 237 [encThr t] [] (one (.tup [resThr (rBack t),iv (rBack t).2]) []):=by
 unfold rBack
 have e2:((((t.frames.map encFrm).length:Nat):Int) == 0)=decide (t.frames=[]):=by rw [List.length_map,int_beq];exact decide_eq_decide.2 (by rw [←List.length_eq_zero_iff];omega)
 cases he:decide (t.frames=[]) with
 | true =>
  rw [he] at e2
  rw [show t.frames.getLast? = none by rw [of_decide_eq_true he];rfl]
  unfold encThr thCells at *
  refine jC Tryz.func237 Tryz.ntmps237 (fun w0 β0 ext hβ=>?_)
  repeat (first|refine jS ?_|refine jD ?_|refine jB ?_)
  rw [e2]
  repeat (first|refine jS ?_|refine jD ?_|refine jB ?_)
  exact jR
 | false =>
  rw [he] at e2
  have hne:=of_decide_eq_false he
  have hpos:0 < t.frames.length:=List.length_pos_iff.2 hne
  rw [last_at hne]
  have hw:IntKind.i64.wrap ((((t.frames.map encFrm).length:Nat):Int)-1)=((t.frames.length-1:Nat):Int):=by rw [List.length_map,wrap_id]<;>omega
  have hlt:((t.frames.length-1:Nat):Int) < t.frames.length:=by omega
  have hd:(t.frames.drop 0).take (t.frames.length-1-0)=t.frames.dropLast:=by rw [List.dropLast_eq_take];rfl
  have hdl:t.frames.dropLast.length≤1000:=by rw [List.length_dropLast];omega
  generalize hx:at' t.frames ((t.frames.length-1:Nat):Int)=f at *
  show ACalls _ _ _ _ (one (.tup [.agg [iv f.back,iv (g0 t.regs 0),iv (g0 t.regs 1),iv (g0 t.regs 2),iv (g0 t.regs 3),iv (g0 f.kept 0),iv (g0 f.kept 1),iv (g0 f.kept 2),iv (g0 f.kept 3),.sl (t.frames.dropLast.map encFrm),iv t.state,iv t.fault,.slz (t.left.map iv)],iv 0]) [])
  unfold encThr thCells at *
  refine jC Tryz.func237 Tryz.ntmps237 (fun w0 β0 ext hβ=>?_)
  repeat (first|refine jS ?_|refine jD ?_|refine jB ?_)
  rw [e2]
  repeat (first|refine jS ?_|refine jD ?_|refine jB ?_)
  rw [hw]
  repeat (first|refine jad 6 174 5 rfl rfl rfl rfl ?_|refine jS ?_|refine jD ?_|refine jB ?_|refine jI (Int.natCast_nonneg _) hlt ?_)
  rw [hx]
  rw [show encFrm f = .agg [iv f.back,iv (g0 f.kept 0),iv (g0 f.kept 1),iv (g0 f.kept 2),iv (g0 f.kept 3)] from rfl]
  repeat (first|refine jad 6 174 5 rfl rfl rfl rfl ?_|refine jS ?_|refine jD ?_|refine jB ?_)
  rw [hw]
  refine jo rfl rfl (cut_enc (enc:=encFrm) (l:=t.frames) 0 (t.frames.length-1) rfl rfl rfl ⟨_,rfl⟩ rfl rfl rfl (fun x=>⟨rfl,rfl⟩) (by omega) (by omega)) rfl rfl ?_
  rw [hd]
  clear hd
  generalize t.frames.dropLast=dl at *
  refine jo rfl rfl (append_encs (enc:=encFrm) (l:=[]) (l2:=dl) rfl rfl rfl rfl rfl rfl rfl rfl rfl (fun x=>⟨rfl,rfl⟩) rfl (by simp only [List.length_nil];omega) rfl rfl) rfl rfl ?_
  repeat (first|refine jo rfl rfl (index_arr rfl rfl rfl rfl rfl (by decide) (by decide)) rfl rfl ?_|refine jS ?_|refine jD ?_|refine jB ?_)
  exact jR
def arrA (r:List Int):List AVal:=[iv (g0 r 0),iv (g0 r 1),iv (g0 r 2),iv (g0 r 3),iv (g0 r 4),iv (g0 r 5),iv (g0 r 6),iv (g0 r 7)]
theorem arr_get (r:List Int) {k:Int} (h0:0≤k) (h8:k < 8):takeA ty3 (arrA r) (0+k.toNat*ty3.size)=some (iv (g0 r k.toNat)):=by
 rcases eight h0 h8 with rfl|rfl|rfl|rfl|rfl|rfl|rfl|rfl<;>rfl
def setL (r:List Int) (k v:Int):List Int:=regs8 fun j=>cond (decide (j=k.toNat)) v (g0 r j)
theorem arr_set (r:List Int) (v:Int) {k:Int} (h0:0≤k) (h8:k < 8):spliceA (arrA r) (0+k.toNat*ty3.size) [iv v]=arrA (setL r k v):=by
 rcases eight h0 h8 with rfl|rfl|rfl|rfl|rfl|rfl|rfl|rfl<;>rfl
theorem rset_ok (r:List Int) (k v:Int) (h0:0≤k) (h8:k < 8):ACalls Tryz.prog 238 [.agg (arrA r),iv k,iv v] [] (one (.agg (arrA (setL r k v))) []):=by
 have hs:=arr_set r v h0 h8
 have hle:0+k.toNat*ty3.size+1≤8:=by show 0+k.toNat*1+1≤8;omega
 unfold arrA at *
 refine jC Tryz.func238 Tryz.ntmps238 (fun w0 β0 ext hβ=>?_)
 repeat (first|refine jS ?_|refine jD ?_|refine jB ?_|refine jo rfl rfl (index_arr rfl rfl rfl rfl rfl h0 h8) rfl rfl ?_|refine jo rfl rfl (store_box (r':=ty3) (v:=iv v) rfl rfl rfl rfl rfl rfl hle hs) rfl rfl ?_)
 exact jR
theorem rap_1 (t:Thr) (s a b c:Int) (hp:0≤t.pc∧t.pc < 1000) (ha:rgs a) :
  ACalls Tryz.prog 208 [encThr t,iv s,.agg [iv 1,iv a,iv b,iv c]] [] (one (.tup [encThr (loDo s ⟨1,a,b,c⟩ { t with pc:=t.pc+1 }),iv 0]) []):=by
 have hw:IntKind.i64.wrap (t.pc+1)=t.pc+1:=by rw [wrap_id]<;>omega
 have hs:=fun v=>rset_ok t.regs a v ha.1 ha.2
 unfold arrA at *
 unfold encThr thCells
 refine jC Tryz.func208 Tryz.ntmps208 (fun w0 β0 ext hβ=>?_)
 repeat (first|refine jS ?_|refine jD ?_|refine jB ?_)
 rw [hw]
 repeat (first|refine jS ?_|refine jD ?_|refine jB ?_|refine jV (hs _) ?_)
 exact jR
theorem rap_2 (t:Thr) (s a b c:Int) (hp:0≤t.pc∧t.pc < 1000) (ha:rgs a) (hb:rgs b) :
  ACalls Tryz.prog 208 [encThr t,iv s,.agg [iv 2,iv a,iv b,iv c]] [] (one (.tup [encThr (loDo s ⟨2,a,b,c⟩ { t with pc:=t.pc+1 }),iv 0]) []):=by
 have hw:IntKind.i64.wrap (t.pc+1)=t.pc+1:=by rw [wrap_id]<;>omega
 have gb:=arr_get t.regs hb.1 hb.2
 have hs:=fun v=>rset_ok t.regs a v ha.1 ha.2
 unfold arrA at *
 unfold encThr thCells
 refine jC Tryz.func208 Tryz.ntmps208 (fun w0 β0 ext hβ=>?_)
 repeat (first|refine jS ?_|refine jD ?_|refine jB ?_)
 rw [hw]
 repeat (first|refine jS ?_|refine jD ?_|refine jB ?_|refine jV (hs _) ?_|refine jo rfl rfl (index_arr rfl rfl rfl rfl rfl hb.1 hb.2) rfl rfl ?_|refine jo rfl rfl (load_dsem (r:=ty3) rfl rfl rfl gb) rfl rfl ?_)
 exact jR
theorem rap_3 (t:Thr) (s a b c:Int) (hp:0≤t.pc∧t.pc < 1000) (ha:rgs a) (hb:rgs b) :
  ACalls Tryz.prog 208 [encThr t,iv s,.agg [iv 3,iv a,iv b,iv c]] [] (one (.tup [encThr (loDo s ⟨3,a,b,c⟩ { t with pc:=t.pc+1 }),iv 0]) []):=by
 have hw:IntKind.i64.wrap (t.pc+1)=t.pc+1:=by rw [wrap_id]<;>omega
 have gb:=arr_get t.regs hb.1 hb.2
 have hs:=fun v=>rset_ok t.regs a v ha.1 ha.2
 unfold arrA at *
 unfold encThr thCells
 refine jC Tryz.func208 Tryz.ntmps208 (fun w0 β0 ext hβ=>?_)
 repeat (first|refine jS ?_|refine jD ?_|refine jB ?_)
 rw [hw]
 repeat (first|refine jS ?_|refine jD ?_|refine jB ?_|refine jV (hs _) ?_|refine jo rfl rfl (index_arr rfl rfl rfl rfl rfl hb.1 hb.2) rfl rfl ?_|refine jo rfl rfl (load_dsem (r:=ty3) rfl rfl rfl gb) rfl rfl ?_)
 exact jR
theorem rap_4 (t:Thr) (s a b c:Int) (hp:0≤t.pc∧t.pc < 1000) (ha:rgs a) (hb:rgs b) :
  ACalls Tryz.prog 208 [encThr t,iv s,.agg [iv 4,iv a,iv b,iv c]] [] (one (.tup [encThr (loDo s ⟨4,a,b,c⟩ { t with pc:=t.pc+1 }),iv 0]) []):=by
 have hw:IntKind.i64.wrap (t.pc+1)=t.pc+1:=by rw [wrap_id]<;>omega
 have gb:=arr_get t.regs hb.1 hb.2
 have hs:=fun v=>rset_ok t.regs a v ha.1 ha.2
 unfold arrA at *
 unfold encThr thCells
 refine jC Tryz.func208 Tryz.ntmps208 (fun w0 β0 ext hβ=>?_)
 repeat (first|refine jS ?_|refine jD ?_|refine jB ?_)
 rw [hw]
 repeat (first|refine jS ?_|refine jD ?_|refine jB ?_|refine jV (hs _) ?_|refine jo rfl rfl (index_arr rfl rfl rfl rfl rfl hb.1 hb.2) rfl rfl ?_|refine jo rfl rfl (load_dsem (r:=ty3) rfl rfl rfl gb) rfl rfl ?_)
 exact jR
theorem rap_5 (t:Thr) (s a b c:Int) (hp:0≤t.pc∧t.pc < 1000) (ha:rgs a) (hb:rgs b) (hc:rgs c) :
  ACalls Tryz.prog 208 [encThr t,iv s,.agg [iv 5,iv a,iv b,iv c]] [] (one (.tup [encThr (loDo s ⟨5,a,b,c⟩ { t with pc:=t.pc+1 }),iv 0]) []):=by
 have hw:IntKind.i64.wrap (t.pc+1)=t.pc+1:=by rw [wrap_id]<;>omega
 have gb:=arr_get t.regs hb.1 hb.2
 have gc:=arr_get t.regs hc.1 hc.2
 have hs:=fun v=>rset_ok t.regs a v ha.1 ha.2
 unfold arrA at *
 unfold encThr thCells
 refine jC Tryz.func208 Tryz.ntmps208 (fun w0 β0 ext hβ=>?_)
 repeat (first|refine jS ?_|refine jD ?_|refine jB ?_)
 rw [hw]
 repeat (first|refine jS ?_|refine jD ?_|refine jB ?_|refine jV (hs _) ?_|refine jo rfl rfl (index_arr rfl rfl rfl rfl rfl hb.1 hb.2) rfl rfl ?_|refine jo rfl rfl (load_dsem (r:=ty3) rfl rfl rfl gb) rfl rfl ?_|refine jo rfl rfl (index_arr rfl rfl rfl rfl rfl hc.1 hc.2) rfl rfl ?_|refine jo rfl rfl (load_dsem (r:=ty3) rfl rfl rfl gc) rfl rfl ?_)
 exact jR
theorem rap_6 (t:Thr) (s a b c:Int) (hp:0≤t.pc∧t.pc < 1000) (ha:rgs a) (hb:rgs b) (hc:rgs c) :
  ACalls Tryz.prog 208 [encThr t,iv s,.agg [iv 6,iv a,iv b,iv c]] [] (one (.tup [encThr (loDo s ⟨6,a,b,c⟩ { t with pc:=t.pc+1 }),iv 0]) []):=by
 have hw:IntKind.i64.wrap (t.pc+1)=t.pc+1:=by rw [wrap_id]<;>omega
 have gb:=arr_get t.regs hb.1 hb.2
 have gc:=arr_get t.regs hc.1 hc.2
 have hs:=fun v=>rset_ok t.regs a v ha.1 ha.2
 unfold arrA at *
 unfold encThr thCells
 refine jC Tryz.func208 Tryz.ntmps208 (fun w0 β0 ext hβ=>?_)
 repeat (first|refine jS ?_|refine jD ?_|refine jB ?_)
 rw [hw]
 repeat (first|refine jS ?_|refine jD ?_|refine jB ?_|refine jV (hs _) ?_|refine jo rfl rfl (index_arr rfl rfl rfl rfl rfl hb.1 hb.2) rfl rfl ?_|refine jo rfl rfl (load_dsem (r:=ty3) rfl rfl rfl gb) rfl rfl ?_|refine jo rfl rfl (index_arr rfl rfl rfl rfl rfl hc.1 hc.2) rfl rfl ?_|refine jo rfl rfl (load_dsem (r:=ty3) rfl rfl rfl gc) rfl rfl ?_)
 exact jR
theorem rap_7 (t:Thr) (s a b c:Int) (hp:0≤t.pc∧t.pc < 1000) (ha:rgs a) (hb:rgs b) (hc:rgs c) :
  ACalls Tryz.prog 208 [encThr t,iv s,.agg [iv 7,iv a,iv b,iv c]] [] (one (.tup [encThr (loDo s ⟨7,a,b,c⟩ { t with pc:=t.pc+1 }),iv 0]) []):=by
 have hw:IntKind.i64.wrap (t.pc+1)=t.pc+1:=by rw [wrap_id]<;>omega
 have gb:=arr_get t.regs hb.1 hb.2
 have gc:=arr_get t.regs hc.1 hc.2
 have hs:=fun v=>rset_ok t.regs a v ha.1 ha.2
 unfold arrA at *
 unfold encThr thCells
 refine jC Tryz.func208 Tryz.ntmps208 (fun w0 β0 ext hβ=>?_)
 repeat (first|refine jS ?_|refine jD ?_|refine jB ?_)
 rw [hw]
 repeat (first|refine jS ?_|refine jD ?_|refine jB ?_|refine jV (hs _) ?_|refine jo rfl rfl (index_arr rfl rfl rfl rfl rfl hb.1 hb.2) rfl rfl ?_|refine jo rfl rfl (load_dsem (r:=ty3) rfl rfl rfl gb) rfl rfl ?_|refine jo rfl rfl (index_arr rfl rfl rfl rfl rfl hc.1 hc.2) rfl rfl ?_|refine jo rfl rfl (load_dsem (r:=ty3) rfl rfl rfl gc) rfl rfl ?_)
 exact jR
theorem rap_8 (t:Thr) (s a b c:Int) (hp:0≤t.pc∧t.pc < 1000) (ha:rgs a) (hb:rgs b) (hc:rgs c) :
  ACalls Tryz.prog 208 [encThr t,iv s,.agg [iv 8,iv a,iv b,iv c]] [] (one (.tup [encThr (loDo s ⟨8,a,b,c⟩ { t with pc:=t.pc+1 }),iv 0]) []):=by
 have hw:IntKind.i64.wrap (t.pc+1)=t.pc+1:=by rw [wrap_id]<;>omega
 have gb:=arr_get t.regs hb.1 hb.2
 have gc:=arr_get t.regs hc.1 hc.2
 have hs:=fun v=>rset_ok t.regs a v ha.1 ha.2
 unfold arrA at *
 unfold encThr thCells
 refine jC Tryz.func208 Tryz.ntmps208 (fun w0 β0 ext hβ=>?_)
 repeat (first|refine jS ?_|refine jD ?_|refine jB ?_)
 rw [hw]
 repeat (first|refine jS ?_|refine jD ?_|refine jB ?_|refine jV (hs _) ?_|refine jo rfl rfl (index_arr rfl rfl rfl rfl rfl hb.1 hb.2) rfl rfl ?_|refine jo rfl rfl (load_dsem (r:=ty3) rfl rfl rfl gb) rfl rfl ?_|refine jo rfl rfl (index_arr rfl rfl rfl rfl rfl hc.1 hc.2) rfl rfl ?_|refine jo rfl rfl (load_dsem (r:=ty3) rfl rfl rfl gc) rfl rfl ?_)
 exact jR
theorem rap_9 (t:Thr) (s a b c:Int) (hp:0≤t.pc∧t.pc < 1000) (ha:rgs a) (hb:rgs b) (hc:rgs c) :
  ACalls Tryz.prog 208 [encThr t,iv s,.agg [iv 9,iv a,iv b,iv c]] [] (one (.tup [encThr (loDo s ⟨9,a,b,c⟩ { t with pc:=t.pc+1 }),iv 0]) []):=by
 have hw:IntKind.i64.wrap (t.pc+1)=t.pc+1:=by rw [wrap_id]<;>omega
 have gb:=arr_get t.regs hb.1 hb.2
 have gc:=arr_get t.regs hc.1 hc.2
 have hs:=fun v=>rset_ok t.regs a v ha.1 ha.2
 unfold arrA at *
 unfold encThr thCells
 by_cases hlt:rg t b < rg t c
 ·have e:loDo s ⟨9,a,b,c⟩ { t with pc:=t.pc+1 }=setR { t with pc:=t.pc+1 } a 1:=by
   show setR _ _ (cond (decide (rg t b < rg t c)) 1 0)=_
   rw [decide_eq_true hlt];rfl
  rw [e]
  refine jC Tryz.func208 Tryz.ntmps208 (fun w0 β0 ext hβ=>?_)
  repeat (first|refine jS ?_|refine jD ?_|refine jB ?_)
  rw [hw]
  repeat (first|refine jS ?_|refine jD ?_|refine jB ?_|refine jo rfl rfl (index_arr rfl rfl rfl rfl rfl hb.1 hb.2) rfl rfl ?_|refine jo rfl rfl (load_dsem (r:=ty3) rfl rfl rfl gb) rfl rfl ?_|refine jo rfl rfl (index_arr rfl rfl rfl rfl rfl hc.1 hc.2) rfl rfl ?_|refine jo rfl rfl (load_dsem (r:=ty3) rfl rfl rfl gc) rfl rfl ?_)
  rw [show decide (g0 t.regs b.toNat < g0 t.regs c.toNat)=true from decide_eq_true hlt]
  repeat (first|refine jS ?_|refine jD ?_|refine jB ?_|refine jV (hs _) ?_)
  exact jR
 ·have e:loDo s ⟨9,a,b,c⟩ { t with pc:=t.pc+1 }=setR { t with pc:=t.pc+1 } a 0:=by
   show setR _ _ (cond (decide (rg t b < rg t c)) 1 0)=_
   rw [decide_eq_false hlt];rfl
  rw [e]
  refine jC Tryz.func208 Tryz.ntmps208 (fun w0 β0 ext hβ=>?_)
  repeat (first|refine jS ?_|refine jD ?_|refine jB ?_)
  rw [hw]
  repeat (first|refine jS ?_|refine jD ?_|refine jB ?_|refine jo rfl rfl (index_arr rfl rfl rfl rfl rfl hb.1 hb.2) rfl rfl ?_|refine jo rfl rfl (load_dsem (r:=ty3) rfl rfl rfl gb) rfl rfl ?_|refine jo rfl rfl (index_arr rfl rfl rfl rfl rfl hc.1 hc.2) rfl rfl ?_|refine jo rfl rfl (load_dsem (r:=ty3) rfl rfl rfl gc) rfl rfl ?_)
  rw [show decide (g0 t.regs b.toNat < g0 t.regs c.toNat)=false from decide_eq_false hlt]
  repeat (first|refine jS ?_|refine jD ?_|refine jB ?_|refine jV (hs _) ?_)
  exact jR
theorem rap_10 (t:Thr) (s a b c:Int) (hp:0≤t.pc∧t.pc < 1000) :
  ACalls Tryz.prog 208 [encThr t,iv s,.agg [iv 10,iv a,iv b,iv c]] [] (one (.tup [encThr (loDo s ⟨10,a,b,c⟩ { t with pc:=t.pc+1 }),iv 0]) []):=by
 have hw:IntKind.i64.wrap (t.pc+1)=t.pc+1:=by rw [wrap_id]<;>omega
 unfold encThr thCells
 refine jC Tryz.func208 Tryz.ntmps208 (fun w0 β0 ext hβ=>?_)
 repeat (first|refine jS ?_|refine jD ?_|refine jB ?_)
 rw [hw]
 repeat (first|refine jS ?_|refine jD ?_|refine jB ?_)
 exact jR
theorem rap_11 (t:Thr) (s a b c:Int) (hp:0≤t.pc∧t.pc < 1000) (ha:rgs a) :
  ACalls Tryz.prog 208 [encThr t,iv s,.agg [iv 11,iv a,iv b,iv c]] [] (one (.tup [encThr (loDo s ⟨11,a,b,c⟩ { t with pc:=t.pc+1 }),iv 0]) []):=by
 have hw:IntKind.i64.wrap (t.pc+1)=t.pc+1:=by rw [wrap_id]<;>omega
 have ga:=arr_get t.regs ha.1 ha.2
 unfold arrA at *
 unfold encThr thCells
 by_cases hz:rg t a=0
 ·
  have e:loDo s ⟨11,a,b,c⟩ { t with pc:=t.pc+1 } = { t with pc:=b }:=by
   show cond (decide (rg t a=0)) _ _=_
   rw [decide_eq_true hz];rfl
  rw [e]
  refine jC Tryz.func208 Tryz.ntmps208 (fun w0 β0 ext hβ=>?_)
  repeat (first|refine jS ?_|refine jD ?_|refine jB ?_)
  rw [hw]
  repeat (first|refine jS ?_|refine jD ?_|refine jB ?_|refine jo rfl rfl (index_arr rfl rfl rfl rfl rfl ha.1 ha.2) rfl rfl ?_|refine jo rfl rfl (load_dsem (r:=ty3) rfl rfl rfl ga) rfl rfl ?_)
  rw [show (g0 t.regs a.toNat == 0)=true from by rw [beq_iff_eq];exact hz]
  repeat (first|refine jS ?_|refine jD ?_|refine jB ?_)
  exact jR
 ·
  have e:loDo s ⟨11,a,b,c⟩ { t with pc:=t.pc+1 } = { t with pc:=t.pc+1 }:=by
   show cond (decide (rg t a=0)) _ _=_
   rw [decide_eq_false hz];rfl
  rw [e]
  refine jC Tryz.func208 Tryz.ntmps208 (fun w0 β0 ext hβ=>?_)
  repeat (first|refine jS ?_|refine jD ?_|refine jB ?_)
  rw [hw]
  repeat (first|refine jS ?_|refine jD ?_|refine jB ?_|refine jo rfl rfl (index_arr rfl rfl rfl rfl rfl ha.1 ha.2) rfl rfl ?_|refine jo rfl rfl (load_dsem (r:=ty3) rfl rfl rfl ga) rfl rfl ?_)
  rw [show (g0 t.regs a.toNat == 0)=false from by rw [beq_eq_false_iff_ne];exact hz]
  repeat (first|refine jS ?_|refine jD ?_|refine jB ?_)
  exact jR
theorem rap_12 (t:Thr) (s a b c:Int) (hp:0≤t.pc∧t.pc < 1000) (ha:rgs a) :
  ACalls Tryz.prog 208 [encThr t,iv s,.agg [iv 12,iv a,iv b,iv c]] [] (one (.tup [encThr (loDo s ⟨12,a,b,c⟩ { t with pc:=t.pc+1 }),iv 0]) []):=by
 have hw:IntKind.i64.wrap (t.pc+1)=t.pc+1:=by rw [wrap_id]<;>omega
 have ga:=arr_get t.regs ha.1 ha.2
 unfold arrA at *
 unfold encThr thCells
 by_cases hz:rg t a=0
 ·
  have e:loDo s ⟨12,a,b,c⟩ { t with pc:=t.pc+1 } = { t with pc:=t.pc+1 }:=by
   show cond (decide (rg t a=0)) _ _=_
   rw [decide_eq_true hz];rfl
  rw [e]
  refine jC Tryz.func208 Tryz.ntmps208 (fun w0 β0 ext hβ=>?_)
  repeat (first|refine jS ?_|refine jD ?_|refine jB ?_)
  rw [hw]
  repeat (first|refine jS ?_|refine jD ?_|refine jB ?_|refine jo rfl rfl (index_arr rfl rfl rfl rfl rfl ha.1 ha.2) rfl rfl ?_|refine jo rfl rfl (load_dsem (r:=ty3) rfl rfl rfl ga) rfl rfl ?_)
  rw [show (g0 t.regs a.toNat != 0)=false from by rw [bne_eq_false_iff_eq];exact hz]
  repeat (first|refine jS ?_|refine jD ?_|refine jB ?_)
  exact jR
 ·
  have e:loDo s ⟨12,a,b,c⟩ { t with pc:=t.pc+1 } = { t with pc:=b }:=by
   show cond (decide (rg t a=0)) _ _=_
   rw [decide_eq_false hz];rfl
  rw [e]
  refine jC Tryz.func208 Tryz.ntmps208 (fun w0 β0 ext hβ=>?_)
  repeat (first|refine jS ?_|refine jD ?_|refine jB ?_)
  rw [hw]
  repeat (first|refine jS ?_|refine jD ?_|refine jB ?_|refine jo rfl rfl (index_arr rfl rfl rfl rfl rfl ha.1 ha.2) rfl rfl ?_|refine jo rfl rfl (load_dsem (r:=ty3) rfl rfl rfl ga) rfl rfl ?_)
  rw [show (g0 t.regs a.toNat != 0)=true from by rw [bne_iff_ne];exact hz]
  repeat (first|refine jS ?_|refine jD ?_|refine jB ?_)
  exact jR
theorem rap_15 (t:Thr) (s a b c:Int) (hp:0≤t.pc∧t.pc < 1000) (ha:rgs a) :
  ACalls Tryz.prog 208 [encThr t,iv s,.agg [iv 15,iv a,iv b,iv c]] [] (one (.tup [encThr (loDo s ⟨15,a,b,c⟩ { t with pc:=t.pc+1 }),iv 0]) []):=by
 have hw:IntKind.i64.wrap (t.pc+1)=t.pc+1:=by rw [wrap_id]<;>omega
 have hs:=fun v=>rset_ok t.regs a v ha.1 ha.2
 unfold arrA at *
 unfold encThr thCells
 refine jC Tryz.func208 Tryz.ntmps208 (fun w0 β0 ext hβ=>?_)
 repeat (first|refine jS ?_|refine jD ?_|refine jB ?_)
 rw [hw]
 repeat (first|refine jS ?_|refine jD ?_|refine jB ?_|refine jV (hs _) ?_)
 exact jR
end Go.AL
end
section
set_option maxRecDepth 100000
namespace Go.AL
open Go Go.Proofs
attribute [local irreducible] J
theorem encThr_agg (t:Thr):encThr t = .agg [iv t.pc,iv (g0 t.regs 0),iv (g0 t.regs 1),iv (g0 t.regs 2),iv (g0 t.regs 3),iv (g0 t.regs 4),iv (g0 t.regs 5),iv (g0 t.regs 6),iv (g0 t.regs 7),.sl (t.frames.map encFrm),iv t.state,iv t.fault,.slz (t.left.map iv)]:=rfl
theorem rput_ok (w:Wd) (k:Nat) (t:Thr) (hl:w.thr.length≤1000):ACalls Tryz.prog 206 [encWd w,iv (k:Int),encThr t] [] (one (encWd (setT w k t)) []):=by
 have h:=rwith_thr w.thr k t hl
 unfold setT
 unfold encWd wCells ivs
 simp only
 rw [encThr_agg] at *
 refine jC Tryz.func206 Tryz.ntmps206 (fun w0 β0 ext hβ=>?_)
 repeat (first|refine jS ?_|refine jD ?_|refine jB ?_|refine jV h ?_)
 exact jR
theorem rfault_ok (w:Wd) (k:Nat) (e:Int) (hk:k < w.thr.length) (hl:w.thr.length≤1000):ACalls Tryz.prog 205 [encWd w,iv (k:Int),iv e] [] (one (encWd (faultW w k e)) []):=by
 have h:=rput_ok w k { thrAt w k with state:=2,fault:=e } hl
 have hk1:(k:Int) < w.thr.length:=by omega
 have hth:=thrAt_at hk
 unfold faultW
 generalize hw':setT w k { thrAt w k with state:=2,fault:=e }=w' at *
 clear hw'
 rw [hth] at h
 generalize hT:at' w.thr (k:Int)=T at *
 rw [encThr_agg] at h
 simp only at h
 unfold encWd wCells ivs at *
 refine jC Tryz.func205 Tryz.ntmps205 (fun w0 β0 ext hβ=>?_)
 refine jS ?_;refine jS ?_;refine jS ?_
 refine jS ?_
 refine jS ?_
 repeat (first|refine jS ?_|refine jD ?_|refine jB ?_|refine jI (Int.natCast_nonneg k) hk1 ?_)
 rw [hT]
 repeat (first|refine jS ?_|refine jD ?_|refine jB ?_|refine jV h ?_)
 exact jR
theorem rlocal_ok (op:Int):ACalls Tryz.prog 207 [iv op] [] (one (bv (inn op 1 15)) []):=by
 unfold inn
 refine jC Tryz.func207 Tryz.ntmps207 (fun w0 β0 ext hβ=>?_)
 repeat (first|refine jS ?_|refine jD ?_|refine jB ?_)
 rw [show decide (op≥1)=decide (1≤op) from rfl]
 cases h:decide (1≤op)
 all_goals (
  repeat (first|refine jS ?_|refine jD ?_|refine jB ?_)
 )
 all_goals exact jR
def rApp (s:Int) (i:Ins) (t:Thr):Thr × Int:=cond (decide (i.op=13)) (rCall t i.a) (cond (decide (i.op=14)) (rBack t) (loDo s i { t with pc:=t.pc+1 },0))
theorem resThr_ok (t:Thr):resThr (t,0)=encThr t:=rfl
theorem loMay_rg {i:Ins} (h:loMay i=true):(1≤regsOf i.op.toNat→rgs i.a)∧(2≤regsOf i.op.toNat→rgs i.b)∧(3≤regsOf i.op.toNat→rgs i.c):=by
 unfold loMay at h
 rw [Bool.and_eq_true,List.all_eq_true] at h
 have h:=h.1
 refine ⟨fun hn=>rgs_of (h _ ?_),fun hn=>rgs_of (h _ ?_),fun hn=>rgs_of (h _ ?_)⟩
 all_goals generalize regsOf i.op.toNat=n at *
 ·match n,hn with
  | n+1,_=>simp
 ·match n,hn with
  | n+2,_=>simp
 ·match n,hn with
  | n+3,_=>simp
theorem rapply_ok (t:Thr) (s:Int) (i:Ins) (hp:0≤t.pc∧t.pc < 1000) (hf:t.frames.length≤1000) (hm:loMay i=true) (ho:inn i.op 1 15=true) :
  ACalls Tryz.prog 208 [encThr t,iv s,encIns i] [] (one (.tup [resThr (rApp s i t),iv (rApp s i t).2]) []):=by
 obtain ⟨op,a,b,c⟩:=i
 obtain ⟨m1,m2,m3⟩:=loMay_rg hm
 simp only at m1 m2 m3 ho
 unfold encIns
 simp only
 rcases inn15 ho with rfl|rfl|rfl|rfl|rfl|rfl|rfl|rfl|rfl|rfl|rfl|rfl|rfl|rfl|rfl
 ·exact rap_1 t s a b c hp (m1 (by decide))
 ·exact rap_2 t s a b c hp (m1 (by decide)) (m2 (by decide))
 ·exact rap_3 t s a b c hp (m1 (by decide)) (m2 (by decide))
 ·exact rap_4 t s a b c hp (m1 (by decide)) (m2 (by decide))
 ·exact rap_5 t s a b c hp (m1 (by decide)) (m2 (by decide)) (m3 (by decide))
 ·exact rap_6 t s a b c hp (m1 (by decide)) (m2 (by decide)) (m3 (by decide))
 ·exact rap_7 t s a b c hp (m1 (by decide)) (m2 (by decide)) (m3 (by decide))
 ·exact rap_8 t s a b c hp (m1 (by decide)) (m2 (by decide)) (m3 (by decide))
 ·exact rap_9 t s a b c hp (m1 (by decide)) (m2 (by decide)) (m3 (by decide))
 ·exact rap_10 t s a b c hp
 ·exact rap_11 t s a b c hp (m1 (by decide))
 ·exact rap_12 t s a b c hp (m1 (by decide))
 ·have h:=rcall_ok t a hf ⟨hp.1,by omega⟩
  rw [show rApp s ⟨13,a,b,c⟩ t=rCall t a from rfl]
  generalize rCall t a=r at *
  obtain ⟨x,e⟩:=r
  simp only at *
  by_cases he:e=0
  ·subst he
   rw [resThr_ok] at *
   rw [encThr_agg] at *
   refine jC Tryz.func208 Tryz.ntmps208 (fun w0 β0 ext hβ=>?_)
   repeat (first|refine jS ?_|refine jD ?_|refine jB ?_|refine jV h ?_)
   exact jR
  ·have hr:resThr (x,e)=thrE0:=by unfold resThr;rw [decide_eq_false he];rfl
   rw [hr] at h ⊢
   rw [encThr_agg] at *
   unfold thrE0 at h ⊢
   refine jC Tryz.func208 Tryz.ntmps208 (fun w0 β0 ext hβ=>?_)
   repeat (first|refine jS ?_|refine jD ?_|refine jB ?_|refine jV h ?_)
   exact jR
 ·have h:=rback_ok t hf
  rw [show rApp s ⟨14,a,b,c⟩ t=rBack t from rfl]
  generalize rBack t=r at *
  obtain ⟨x,e⟩:=r
  simp only at *
  by_cases he:e=0
  ·subst he
   rw [resThr_ok] at *
   rw [encThr_agg] at *
   refine jC Tryz.func208 Tryz.ntmps208 (fun w0 β0 ext hβ=>?_)
   repeat (first|refine jS ?_|refine jD ?_|refine jB ?_|refine jV h ?_)
   exact jR
  ·have hr:resThr (x,e)=thrE0:=by unfold resThr;rw [decide_eq_false he];rfl
   rw [hr] at h ⊢
   rw [encThr_agg] at *
   unfold thrE0 at h ⊢
   refine jC Tryz.func208 Tryz.ntmps208 (fun w0 β0 ext hβ=>?_)
   repeat (first|refine jS ?_|refine jD ?_|refine jB ?_|refine jV h ?_)
   exact jR
 ·exact rap_15 t s a b c hp (m1 (by decide))
end Go.AL
end
section
set_option maxRecDepth 100000
namespace Go.AL
open Go Go.Proofs
attribute [local irreducible] J
structure RfR (w:Wd) (k:Nat):Prop where
 tso:TsR w.tso
 kb:k < w.tso.bufs.length
 kt:k < w.thr.length
 l8:w.thr.length≤8
 pc:0≤(thrAt w k).pc∧(thrAt w k).pc < 1000
theorem th_get (t:Thr) {q:Int} (h0:0≤q) (h8:q < 8):takeA ty3 (thCells t) (0+1+q.toNat*ty3.size)=some (iv (rg t q)):=by
 rcases eight h0 h8 with rfl|rfl|rfl|rfl|rfl|rfl|rfl|rfl<;>rfl
theorem racc16_ok (w:Wd) (k:Nat) (a b c:Int) (h:RfR w k) (ha:rgs a) (hb:rgs b) :
  ACalls Tryz.prog 209 [encWd w,iv (k:Int),.agg [iv 16,iv a,iv b,iv c]] [] (one (encWd (doOp w k (thrAt w k) ⟨16,a,b,c⟩)) []):=by
 have hpc:=h.pc
 have hk1:(k:Int) < w.thr.length:=by have:=h.kt;omega
 have hth:=thrAt_at h.kt
 have e0:doOp w k (thrAt w k) ⟨16,a,b,c⟩=cond (decide ((tsLoad w.tso k (IntKind.i64.wrap (rg (thrAt w k) b+c))).2=0)) (setT w k (setR (pc1 (thrAt w k)) a (tsLoad w.tso k (IntKind.i64.wrap (rg (thrAt w k) b+c))).1)) (faultW w k (tsLoad w.tso k (IntKind.i64.wrap (rg (thrAt w k) b+c))).2):=rfl
 rw [e0]
 have h2:=rtload_ok w.tso k (IntKind.i64.wrap (rg (thrAt w k) b+c)) h.tso h.kb
 have h4:=fun v=>rput_ok w k (setR (pc1 (thrAt w k)) a v) (by have:=h.l8;omega)
 have h5:=fun e=>rfault_ok w k e h.kt (by have:=h.l8;omega)
 rw [hth] at hpc h2 h4 ⊢
 generalize hT:at' w.thr (k:Int)=T at *
 have h3:=fun v=>rset_ok T.regs a v ha.1 ha.2
 have gb:=th_get T hb.1 hb.2
 have hw:IntKind.i64.wrap (T.pc+1)=T.pc+1:=by rw [wrap_id]<;>omega
 unfold thCells rg at *
 generalize tsLoad w.tso k (IntKind.i64.wrap (g0 T.regs b.toNat+c))=ld at *
 obtain ⟨v,e⟩:=ld
 simp only at *
 have h4:=h4 v
 have h5:=h5 e
 have h3:=h3 v
 rw [encThr_agg] at h4
 generalize setT w k (setR (pc1 T) a v)=w1 at *
 generalize faultW w k e=w2 at *
 unfold encTso tCells ivs at h2
 unfold encWd wCells ivs at *
 unfold arrA at h3
 refine jC Tryz.func209 Tryz.ntmps209 (fun w0 β0 ext hβ=>?_)
 repeat (first|refine jS ?_|refine jD ?_|refine jB ?_|refine jI (Int.natCast_nonneg k) hk1 ?_)
 rw [hT]
 repeat (first|refine jS ?_|refine jD ?_|refine jB ?_|refine jo rfl rfl (index_arr rfl rfl rfl rfl rfl hb.1 hb.2) rfl rfl ?_|refine jo rfl rfl (load_dsem (r:=ty3) rfl rfl rfl gb) rfl rfl ?_|refine jV h2 ?_)
 by_cases he:e=0
 ·subst he
  repeat (first|refine jS ?_|refine jD ?_|refine jB ?_|refine jV h3 ?_)
  rw [hw]
  repeat (first|refine jS ?_|refine jD ?_|refine jB ?_|refine jV h4 ?_)
  exact jR
 ·rw [show (e != 0)=true from by rw [bne_iff_ne];exact he]
  rw [decide_eq_false he]
  repeat (first|refine jS ?_|refine jD ?_|refine jB ?_|refine jV h5 ?_)
  exact jR
theorem racc17_ok (w:Wd) (k:Nat) (a b c:Int) (h:RfR w k) (ha:rgs a) (hb:rgs b) :
  ACalls Tryz.prog 209 [encWd w,iv (k:Int),.agg [iv 17,iv a,iv b,iv c]] [] (one (encWd (doOp w k (thrAt w k) ⟨17,a,b,c⟩)) []):=by
 have hpc:=h.pc
 have hk1:(k:Int) < w.thr.length:=by have:=h.kt;omega
 have hth:=thrAt_at h.kt
 have e0:doOp w k (thrAt w k) ⟨17,a,b,c⟩=cond (decide ((tsStore w.tso k (IntKind.i64.wrap (rg (thrAt w k) b+c)) (rg (thrAt w k) a)).2=0)) (setT { w with tso:=(tsStore w.tso k (IntKind.i64.wrap (rg (thrAt w k) b+c)) (rg (thrAt w k) a)).1 } k (pc1 (thrAt w k))) (faultW w k (tsStore w.tso k (IntKind.i64.wrap (rg (thrAt w k) b+c)) (rg (thrAt w k) a)).2):=rfl
 rw [e0]
 have h2:=rtstore_ok w.tso k (IntKind.i64.wrap (rg (thrAt w k) b+c)) (rg (thrAt w k) a) h.tso h.kb
 have h4:=fun ts=>rput_ok { w with tso:=ts } k (pc1 (thrAt w k)) (by have:=h.l8;show w.thr.length≤1000;omega)
 have h5:=fun e=>rfault_ok w k e h.kt (by have:=h.l8;omega)
 rw [hth] at hpc h2 h4 ⊢
 generalize hT:at' w.thr (k:Int)=T at *
 have gb:=th_get T hb.1 hb.2
 have ga:=th_get T ha.1 ha.2
 have hw:IntKind.i64.wrap (T.pc+1)=T.pc+1:=by rw [wrap_id]<;>omega
 unfold thCells rg at *
 generalize tsStore w.tso k (IntKind.i64.wrap (g0 T.regs b.toNat+c)) (g0 T.regs a.toNat)=ld at *
 obtain ⟨v,e⟩:=ld
 simp only at *
 have h4:=h4 v
 have h5:=h5 e
 rw [encThr_agg] at h4
 generalize setT { w with tso:=v } k (pc1 T)=w1 at *
 generalize faultW w k e=w2 at *
 unfold encTso tCells ivs at h2
 unfold encWd wCells ivs at *
 refine jC Tryz.func209 Tryz.ntmps209 (fun w0 β0 ext hβ=>?_)
 repeat (first|refine jS ?_|refine jD ?_|refine jB ?_|refine jI (Int.natCast_nonneg k) hk1 ?_)
 rw [hT]
 repeat (first|refine jS ?_|refine jD ?_|refine jB ?_|refine jo rfl rfl (index_arr rfl rfl rfl rfl rfl hb.1 hb.2) rfl rfl ?_|refine jo rfl rfl (index_arr rfl rfl rfl rfl rfl ha.1 ha.2) rfl rfl ?_|refine jo rfl rfl (load_dsem (r:=ty3) rfl rfl rfl gb) rfl rfl ?_|refine jo rfl rfl (load_dsem (r:=ty3) rfl rfl rfl ga) rfl rfl ?_|refine jV h2 ?_)
 by_cases he:e=0
 ·subst he
  repeat (first|refine jS ?_|refine jD ?_|refine jB ?_)
  rw [hw]
  repeat (first|refine jS ?_|refine jD ?_|refine jB ?_|refine jV h4 ?_)
  exact jR
 ·rw [show (e != 0)=true from by rw [bne_iff_ne];exact he]
  rw [decide_eq_false he]
  repeat (first|refine jS ?_|refine jD ?_|refine jB ?_|refine jV h5 ?_)
  exact jR
theorem rlock_ok (op kd:Int) (hop:op=19∧kd=0∨op=20∧kd=1∨op=21∧kd=2) (w:Wd) (k:Nat) (a b c:Int) (h:RfR w k) (ha:rgs a) (hb:rgs b) (hc:op=19→rgs c) :
  ACalls Tryz.prog 210 [encWd w,iv (k:Int),.agg [iv op,iv a,iv b,iv c]] [] (one (encWd (doOp w k (thrAt w k) ⟨op,a,b,c⟩)) []):=by
 have hpc:=h.pc
 have hk1:(k:Int) < w.thr.length:=by have:=h.kt;omega
 have hth:=thrAt_at h.kt
 have e0:∃ y,(op=19→y=rg (thrAt w k) c)∧(op≠19→y=0)∧doOp w k (thrAt w k) ⟨op,a,b,c⟩=cond (decide ((tsLocked w.tso k kd (rg (thrAt w k) b) (rg (thrAt w k) a) y).2.2=0)) (setT { w with tso:=(tsLocked w.tso k kd (rg (thrAt w k) b) (rg (thrAt w k) a) y).1 } k (setR (pc1 (thrAt w k)) a (tsLocked w.tso k kd (rg (thrAt w k) b) (rg (thrAt w k) a) y).2.1)) (faultW w k (tsLocked w.tso k kd (rg (thrAt w k) b) (rg (thrAt w k) a) y).2.2):=by
  rcases hop with ⟨rfl,rfl⟩|⟨rfl,rfl⟩|⟨rfl,rfl⟩
  ·exact ⟨_,fun _=>rfl,fun h=>absurd rfl h,rfl⟩
  ·exact ⟨0,fun h=>absurd h (by decide),fun _=>rfl,rfl⟩
  ·exact ⟨0,fun h=>absurd h (by decide),fun _=>rfl,rfl⟩
 obtain ⟨y,hy1,hy2,e0⟩:=e0
 rw [e0]
 have h2:=rlocked_ok w.tso k kd (rg (thrAt w k) b) (rg (thrAt w k) a) y h.tso h.kb (by omega)
 have h4:=fun ts v=>rput_ok { w with tso:=ts } k (setR (pc1 (thrAt w k)) a v) (by have:=h.l8;show w.thr.length≤1000;omega)
 have h5:=fun e=>rfault_ok w k e h.kt (by have:=h.l8;omega)
 rw [hth] at hpc h2 h4 hy1 ⊢
 generalize hT:at' w.thr (k:Int)=T at *
 have gb:=th_get T hb.1 hb.2
 have ga:=th_get T ha.1 ha.2
 have h3:=fun v=>rset_ok T.regs a v ha.1 ha.2
 have hw:IntKind.i64.wrap (T.pc+1)=T.pc+1:=by rw [wrap_id]<;>omega
 unfold thCells rg at *
 generalize tsLocked w.tso k kd (g0 T.regs b.toNat) (g0 T.regs a.toNat) y=ld at *
 obtain ⟨ts,v,e⟩:=ld
 simp only at *
 have h4:=h4 ts v
 have h5:=h5 e
 have h3:=h3 v
 rw [encThr_agg] at h4
 generalize setT { w with tso:=ts } k (setR (pc1 T) a v)=w1 at *
 generalize faultW w k e=w2 at *
 unfold encTso tCells ivs at h2
 unfold encWd wCells ivs at *
 unfold arrA at h3
 rcases hop with ⟨rfl,rfl⟩|⟨rfl,rfl⟩|⟨rfl,rfl⟩
 ·have hc:=hc rfl
  have hy:=hy1 rfl
  subst hy
  have gc:=th_get T hc.1 hc.2
  unfold thCells rg at gc
  refine jC Tryz.func210 Tryz.ntmps210 (fun w0 β0 ext hβ=>?_)
  repeat (first|refine jS ?_|refine jD ?_|refine jB ?_|refine jI (Int.natCast_nonneg k) hk1 ?_)
  rw [hT]
  repeat (first|refine jS ?_|refine jD ?_|refine jB ?_|refine jo rfl rfl (index_arr rfl rfl rfl rfl rfl hb.1 hb.2) rfl rfl ?_|refine jo rfl rfl (index_arr rfl rfl rfl rfl rfl ha.1 ha.2) rfl rfl ?_|refine jo rfl rfl (index_arr rfl rfl rfl rfl rfl hc.1 hc.2) rfl rfl ?_|refine jo rfl rfl (load_dsem (r:=ty3) rfl rfl rfl gb) rfl rfl ?_|refine jo rfl rfl (load_dsem (r:=ty3) rfl rfl rfl ga) rfl rfl ?_|refine jo rfl rfl (load_dsem (r:=ty3) rfl rfl rfl gc) rfl rfl ?_|refine jV h2 ?_)
  by_cases he:e=0
  ·subst he
   repeat (first|refine jS ?_|refine jD ?_|refine jB ?_)
   rw [hw]
   repeat (first|refine jS ?_|refine jD ?_|refine jB ?_|refine jV h3 ?_|refine jV h4 ?_)
   exact jR
  ·rw [show (e != 0)=true from by rw [bne_iff_ne];exact he]
   rw [decide_eq_false he]
   repeat (first|refine jS ?_|refine jD ?_|refine jB ?_|refine jV h5 ?_)
   exact jR
 all_goals (
  have hy:=hy2 (by decide)
  subst hy
  refine jC Tryz.func210 Tryz.ntmps210 (fun w0 β0 ext hβ=>?_)
  repeat (first|refine jS ?_|refine jD ?_|refine jB ?_|refine jI (Int.natCast_nonneg k) hk1 ?_)
  rw [hT]
  repeat (first|refine jS ?_|refine jD ?_|refine jB ?_|refine jo rfl rfl (index_arr rfl rfl rfl rfl rfl hb.1 hb.2) rfl rfl ?_|refine jo rfl rfl (index_arr rfl rfl rfl rfl rfl ha.1 ha.2) rfl rfl ?_|refine jo rfl rfl (load_dsem (r:=ty3) rfl rfl rfl gb) rfl rfl ?_|refine jo rfl rfl (load_dsem (r:=ty3) rfl rfl rfl ga) rfl rfl ?_|refine jV h2 ?_)
  by_cases he:e=0
  ·subst he
   repeat (first|refine jS ?_|refine jD ?_|refine jB ?_)
   rw [hw]
   repeat (first|refine jS ?_|refine jD ?_|refine jB ?_|refine jV h3 ?_|refine jV h4 ?_)
   exact jR
  ·rw [show (e != 0)=true from by rw [bne_iff_ne];exact he]
   rw [decide_eq_false he]
   repeat (first|refine jS ?_|refine jD ?_|refine jB ?_|refine jV h5 ?_)
   exact jR
 )
end Go.AL
end
section
set_option maxRecDepth 100000
namespace Go.AL
open Go Go.Proofs
attribute [local irreducible] J
theorem th_left_rel {a0 a1 a2 a3 a4 a5 a6 a7 a8 a9 b0 b1 x y:AVal} (hr:∀ (c:Ctx) u,Rel c x u→Rel c y u):∀ (c:Ctx) us,RelL c [a0,a1,a2,a3,a4,a5,a6,a7,a8,a9,b0,b1,x] us→RelL c [a0,a1,a2,a3,a4,a5,a6,a7,a8,a9,b0,b1,y] us:=by
 intro c
 iterate 12 refine relL_cons (fun u h=>h) ?_
 exact relL_cons (hr c) (fun us h=>h)
theorem rbroad_ok (w:Wd) (k:Nat) (a b c:Int) (h:RfR w k) :
  ACalls Tryz.prog 211 [encWd w,iv (k:Int)] [] (one (encWd (doOp w k (thrAt w k) ⟨22,a,b,c⟩)) []):=by
 have hpc:=h.pc
 have hk1:(k:Int) < w.thr.length:=by have:=h.kt;omega
 have hth:=thrAt_at h.kt
 have hsz:=h.tso.sz
 have e0:doOp w k (thrAt w k) ⟨22,a,b,c⟩=cond (decide (0 < (thrAt w k).left.length)) (setT w k { pc1 (thrAt w k) with left:=[] }) (setT w k { thrAt w k with left:=lens w.tso.bufs }):=by
  show cond (decide ((cond (decide (0 < (thrAt w k).left.length)) (w,{ pc1 (thrAt w k) with left:=[] },(0:Int)) (w,{ thrAt w k with left:=lens w.tso.bufs },0)).2.2=0)) _ _=_
  cases hd:decide (0 < (thrAt w k).left.length)<;>(unfold doN;simp only [Int.toNat_natCast];rw [hd];rfl)
 rw [e0]
 have h4:=rput_ok w k { pc1 (thrAt w k) with left:=[] } (by have:=h.l8;omega)
 have h5:=rput_ok w k { thrAt w k with left:=lens w.tso.bufs } (by have:=h.l8;omega)
 rw [hth] at hpc h4 h5 ⊢
 generalize hT:at' w.thr (k:Int)=T at *
 have hw:IntKind.i64.wrap (T.pc+1)=T.pc+1:=by rw [wrap_id]<;>omega
 have hd:decide ((((T.left.map iv).length:Nat):Int) > 0)=decide (0 < T.left.length):=by rw [List.length_map];exact decide_eq_decide.2 (by omega)
 rw [encThr_agg] at h4 h5
 generalize setT w k { pc1 T with left:=[] }=w1 at *
 generalize setT w k { T with left:=lens w.tso.bufs }=w2 at *
 unfold encWd wCells ivs at *
 cases hz:decide (0 < T.left.length) with
 | true =>
  rw [hz] at hd
  refine jC Tryz.func211 Tryz.ntmps211 (fun w0 β0 ext hβ=>?_)
  repeat (first|refine jS ?_|refine jD ?_|refine jB ?_|refine jI (Int.natCast_nonneg k) hk1 ?_)
  rw [hT,hd]
  refine jc rfl rfl rfl (fun _=>?_) (fun hf=>absurd hf (by decide))
  refine jS ?_
  refine jS ?_
  refine jS ?_
  refine jS ?_
  refine jS ?_
  refine jS ?_
  refine jweakB 2 [iv T.pc,iv (g0 T.regs 0),iv (g0 T.regs 1),iv (g0 T.regs 2),iv (g0 T.regs 3),iv (g0 T.regs 4),iv (g0 T.regs 5),iv (g0 T.regs 6),iv (g0 T.regs 7),.sl (T.frames.map encFrm),iv T.state,iv T.fault,.slz []] rfl rfl rfl (th_left_rel fun c u h=>slf_slz h) ?_
  repeat (first|refine jS ?_|refine jD ?_|refine jB ?_)
  rw [hw]
  repeat (first|refine jS ?_|refine jD ?_|refine jB ?_|refine jV h4 ?_)
  exact jR
 | false =>
  rw [hz] at hd
  refine jC Tryz.func211 Tryz.ntmps211 (fun w0 β0 ext hβ=>?_)
  repeat (first|refine jS ?_|refine jD ?_|refine jB ?_|refine jI (Int.natCast_nonneg k) hk1 ?_)
  rw [hT,hd]
  repeat (first|refine jad 6 3 1 rfl rfl rfl rfl ?_|refine jS ?_|refine jD ?_|refine jB ?_)
  refine jloopI (fun q:Nat=>q≤w.tso.bufs.length) [1,2,4,5,6,30,31,32] (fun q=>[iv (k:Int),.ptr 0 0,.ptr 1 0,.ptr 2 0,.arr 3 (q+1),.sl (w.tso.bufs.map encBuf),.v (.int .i64 ((w.tso.bufs.map encBuf).length:Int)),.v (.int .i64 (q:Int))])
   (fun q=>[.box 33 [.sl (w.code.map encIns),.sl (w.tso.mem.words.map iv),.sl (w.tso.mem.tags.map iv),iv w.tso.depth,.sl (w.tso.bufs.map encBuf),.sl (w.thr.map encThr),.sl (w.evs.map encEvt)],.box 33 [.slf [],.slf [],.slf [],iv 0,.slf [],.slf [],.slf []],
    .box 43 [iv T.pc,iv (g0 T.regs 0),iv (g0 T.regs 1),iv (g0 T.regs 2),iv (g0 T.regs 3),iv (g0 T.regs 4),iv (g0 T.regs 5),iv (g0 T.regs 6),iv (g0 T.regs 7),.sl (T.frames.map encFrm),iv T.state,iv T.fault,.slz (T.left.map iv)],.arr (q+1) 3 1 ((lens (w.tso.bufs.take q)).map iv)]) (fun q=>w.tso.bufs.length-q) 0 (Nat.zero_le _) rfl rfl (fun q hq=>?_)
  repeat (first|refine jS ?_|refine jD ?_|refine jB ?_)
  refine jc rfl rfl rfl (fun h=>?_) (fun h=>?_)
  ·have h:=of_decide_eq_true h
   rw [List.length_map] at h
   have hq2:q < w.tso.bufs.length:=by omega
   have hlt:=lens_take hq2
   have hll:(lens (w.tso.bufs.take q)).length≤8:=by unfold lens;rw [List.length_map,List.length_take];omega
   repeat (first|refine jS ?_|refine jD ?_|refine jB ?_|refine jI (Int.natCast_nonneg q) h ?_)
   rw [show (((at' w.tso.bufs (q:Int)).map encPut).length:Int)=((at' w.tso.bufs (q:Int)).length:Int) by rw [List.length_map]]
   repeat (first|refine jS ?_|refine jD ?_|refine jB ?_)
   refine jo rfl rfl (append_enc (enc:=iv) (l:=lens (w.tso.bufs.take q)) ((at' w.tso.bufs (q:Int)).length:Int) rfl rfl rfl rfl rfl rfl rfl rfl rfl rfl (fun x=>⟨rfl,rfl⟩) rfl (by omega) rfl rfl) rfl rfl ?_
   rw [←hlt]
   repeat (first|refine jS ?_|refine jD ?_|refine jB ?_)
   refine jnextI (q+1) hq2 ?_ rfl (by omega)
   show some _=some _
   rw [idx_next hq2 (by omega)]
  ·have h:=of_decide_eq_false h
   rw [List.length_map] at h
   have:q=w.tso.bufs.length:=by omega
   subst this
   rw [List.take_length]
   have hne:(lens w.tso.bufs).map iv≠[]:=by
    intro e
    have:=congrArg List.length e
    unfold lens at this
    simp at this
    rw [this] at hsz
    simp at hsz
   refine jpub 6 rfl rfl rfl rfl ?_
   refine jweak 6 (.slz ((lens w.tso.bufs).map iv)) rfl rfl (fun c u h=>slz_of hne h) ?_
   repeat (first|refine jS ?_|refine jD ?_|refine jB ?_|refine jV h5 ?_)
   exact jR
theorem rmarkI_ok (op tag:Int) (hop:op=24∧tag=1∨op=25∧tag=2) (w:Wd) (k:Nat) (a b c:Int) (h:RfR w k) (ha:rgs a) (hb:rgs b) :
  ACalls Tryz.prog 212 [encWd w,iv (k:Int),.agg [iv op,iv a,iv b,iv c]] [] (one (encWd (doOp w k (thrAt w k) ⟨op,a,b,c⟩)) []):=by
 have hpc:=h.pc
 have hk1:(k:Int) < w.thr.length:=by have:=h.kt;omega
 have hth:=thrAt_at h.kt
 have e0:doOp w k (thrAt w k) ⟨op,a,b,c⟩=cond (decide ((mMark w.tso.mem (rg (thrAt w k) a) (rg (thrAt w k) b) tag).2=0)) (setT { w with tso:={ w.tso with mem:=(mMark w.tso.mem (rg (thrAt w k) a) (rg (thrAt w k) b) tag).1 } } k (pc1 (thrAt w k))) (faultW w k (mMark w.tso.mem (rg (thrAt w k) a) (rg (thrAt w k) b) tag).2):=by
  rcases hop with ⟨rfl,rfl⟩|⟨rfl,rfl⟩<;>rfl
 rw [e0]
 have h2:=rmark_ok w.tso.mem (rg (thrAt w k) a) (rg (thrAt w k) b) tag h.tso.mem (by omega)
 have h4:=fun m=>rput_ok { w with tso:={ w.tso with mem:=m } } k (pc1 (thrAt w k)) (by have:=h.l8;show w.thr.length≤1000;omega)
 have h5:=fun e=>rfault_ok w k e h.kt (by have:=h.l8;omega)
 rw [hth] at hpc h2 h4 ⊢
 generalize hT:at' w.thr (k:Int)=T at *
 have gb:=th_get T hb.1 hb.2
 have ga:=th_get T ha.1 ha.2
 have hw:IntKind.i64.wrap (T.pc+1)=T.pc+1:=by rw [wrap_id]<;>omega
 unfold thCells rg at *
 generalize mMark w.tso.mem (g0 T.regs a.toNat) (g0 T.regs b.toNat) tag=ld at *
 obtain ⟨v,e⟩:=ld
 simp only at *
 have h4:=h4 v
 have h5:=h5 e
 rw [encThr_agg] at h4
 generalize setT { w with tso:={ w.tso with mem:=v } } k (pc1 T)=w1 at *
 generalize faultW w k e=w2 at *
 unfold encMem mCells ivs at h2
 unfold encWd wCells ivs at *
 rcases hop with ⟨rfl,rfl⟩|⟨rfl,rfl⟩
 all_goals (
  refine jC Tryz.func212 Tryz.ntmps212 (fun w0 β0 ext hβ=>?_)
  repeat (first|refine jS ?_|refine jD ?_|refine jB ?_|refine jI (Int.natCast_nonneg k) hk1 ?_)
  rw [hT]
  repeat (first|refine jS ?_|refine jD ?_|refine jB ?_|refine jo rfl rfl (index_arr rfl rfl rfl rfl rfl hb.1 hb.2) rfl rfl ?_|refine jo rfl rfl (index_arr rfl rfl rfl rfl rfl ha.1 ha.2) rfl rfl ?_|refine jo rfl rfl (load_dsem (r:=ty3) rfl rfl rfl gb) rfl rfl ?_|refine jo rfl rfl (load_dsem (r:=ty3) rfl rfl rfl ga) rfl rfl ?_|refine jV h2 ?_)
  by_cases he:e=0
  ·subst he
   repeat (first|refine jS ?_|refine jD ?_|refine jB ?_)
   rw [hw]
   repeat (first|refine jS ?_|refine jD ?_|refine jB ?_|refine jV h4 ?_)
   exact jR
  ·rw [show (e != 0)=true from by rw [bne_iff_ne];exact he]
   rw [decide_eq_false he]
   repeat (first|refine jS ?_|refine jD ?_|refine jB ?_|refine jV h5 ?_)
   exact jR
 )
end Go.AL
end
section
set_option maxRecDepth 100000
namespace Go.AL
open Go Go.Proofs
attribute [local irreducible] J
structure InsK (n:Nat) (i:Ins):Prop where
 op:0≤i.op∧i.op≤26
 ab:i.op=16∨i.op=17∨i.op=19∨i.op=20∨i.op=21∨i.op=23∨i.op=24∨i.op=25→rgs i.a∧rgs i.b
 c:i.op=19→rgs i.c
 lo:inn i.op 1 15=true→loMay i=true
 call:i.op=13→0≤i.a∧i.a≤n
theorem may_lo {n:Nat} {i:Ins} (hn:n≤1000) (h:mayI n i=true) (ho:inn i.op 1 15=true):loMay i=true∧(i.op=13→0≤i.a∧i.a≤n):=by
 obtain ⟨op,a,b,c⟩:=i
 have h0:inn op 0 26=true∧mayV (kdO op.toNat)[0]? n a=true∧mayV (kdO op.toNat)[1]? n b=true∧mayV (kdO op.toNat)[2]? n c=true:=by
  unfold mayI at h
  simp only [Bool.and_eq_true] at h
  exact ⟨h.1,h.2.1,h.2.2.1,h.2.2.2⟩
 obtain ⟨_,hA,hB,hC⟩:=h0
 simp only at ho
 clear h
 have big:∀ v:Int,inn v 0 n=true→inn v 0 1000=true:=fun v hv=>by
  have:=inn_iff.1 hv
  exact inn_iff.2 ⟨by omega,by omega⟩
 rcases inn15 ho with rfl|rfl|rfl|rfl|rfl|rfl|rfl|rfl|rfl|rfl|rfl|rfl|rfl|rfl|rfl
 ·have hA:inn a 0 7=true:=hA
  exact ⟨show ((inn a 0 7&&true)&&(true||_))=true by rw [hA];rfl,fun h=>by simp at h⟩
 ·have hA:inn a 0 7=true:=hA
  have hB:inn b 0 7=true:=hB
  exact ⟨show ((inn a 0 7&&(inn b 0 7&&true))&&(true||_))=true by rw [hA,hB];rfl,fun h=>by simp at h⟩
 ·have hA:inn a 0 7=true:=hA
  have hB:inn b 0 7=true:=hB
  exact ⟨show ((inn a 0 7&&(inn b 0 7&&true))&&(true||_))=true by rw [hA,hB];rfl,fun h=>by simp at h⟩
 ·have hA:inn a 0 7=true:=hA
  have hB:inn b 0 7=true:=hB
  exact ⟨show ((inn a 0 7&&(inn b 0 7&&true))&&(true||_))=true by rw [hA,hB];rfl,fun h=>by simp at h⟩
 ·have hA:inn a 0 7=true:=hA
  have hB:inn b 0 7=true:=hB
  have hC:inn c 0 7=true:=hC
  exact ⟨show ((inn a 0 7&&(inn b 0 7&&(inn c 0 7&&true)))&&(true||_))=true by rw [hA,hB,hC];rfl,fun h=>by simp at h⟩
 ·have hA:inn a 0 7=true:=hA
  have hB:inn b 0 7=true:=hB
  have hC:inn c 0 7=true:=hC
  exact ⟨show ((inn a 0 7&&(inn b 0 7&&(inn c 0 7&&true)))&&(true||_))=true by rw [hA,hB,hC];rfl,fun h=>by simp at h⟩
 ·have hA:inn a 0 7=true:=hA
  have hB:inn b 0 7=true:=hB
  have hC:inn c 0 7=true:=hC
  exact ⟨show ((inn a 0 7&&(inn b 0 7&&(inn c 0 7&&true)))&&(true||_))=true by rw [hA,hB,hC];rfl,fun h=>by simp at h⟩
 ·have hA:inn a 0 7=true:=hA
  have hB:inn b 0 7=true:=hB
  have hC:inn c 0 7=true:=hC
  exact ⟨show ((inn a 0 7&&(inn b 0 7&&(inn c 0 7&&true)))&&(true||_))=true by rw [hA,hB,hC];rfl,fun h=>by simp at h⟩
 ·have hA:inn a 0 7=true:=hA
  have hB:inn b 0 7=true:=hB
  have hC:inn c 0 7=true:=hC
  exact ⟨show ((inn a 0 7&&(inn b 0 7&&(inn c 0 7&&true)))&&(true||_))=true by rw [hA,hB,hC];rfl,fun h=>by simp at h⟩
 ·have hA:inn a 0 n=true:=hA
  exact ⟨show (true&&(false||inn a 0 1000))=true by rw [big _ hA];rfl,fun h=>by simp at h⟩
 ·have hA:inn a 0 7=true:=hA
  have hB:inn b 0 n=true:=hB
  exact ⟨show ((inn a 0 7&&true)&&(false||inn b 0 1000))=true by rw [hA,big _ hB];rfl,fun h=>by simp at h⟩
 ·have hA:inn a 0 7=true:=hA
  have hB:inn b 0 n=true:=hB
  exact ⟨show ((inn a 0 7&&true)&&(false||inn b 0 1000))=true by rw [hA,big _ hB];rfl,fun h=>by simp at h⟩
 ·have hA:inn a 0 n=true:=hA
  exact ⟨show (true&&(false||inn a 0 1000))=true by rw [big _ hA];rfl,fun _=>inn_iff.1 hA⟩
 ·exact ⟨rfl,fun h=>by simp at h⟩
 ·have hA:inn a 0 7=true:=hA
  exact ⟨show ((inn a 0 7&&true)&&(true||_))=true by rw [hA];rfl,fun h=>by simp at h⟩
theorem insK_may {n:Nat} {i:Ins} (hn:n≤1000) (h:mayI n i=true):InsK n i:=by
 have hr:=insR_may h
 have h0:inn i.op 0 26=true:=by
  unfold mayI at h
  simp only [Bool.and_eq_true] at h
  exact h.1
 refine ⟨inn_iff.1 h0,hr.ab,hr.c,fun ho=>(may_lo hn h ho).1,fun h13=>(may_lo hn h (inn_iff.2 ⟨by omega,by omega⟩)).2 h13⟩
theorem loApply_eq {k:Int} {i:Ins} {t:Thr} (ht:thRight t=true) (hk:inn k 0 7=true) (h0:t.state=0) (hl:t.left=[]) (hp:t.pc < 1000) (ho:inn i.op 1 15=true) (hm:loMay i=true) (hc:i.op=13→inn i.a 0 1000=true):loApply k i t=rApp k i t:=by
 have hr:loReady t k=0:=by
  unfold loReady
  rw [ht,hk,decide_eq_true h0,hl];rfl
 unfold loApply rApp
 rw [hr,ho,hm,decide_eq_false (show ¬t.pc=1000 by omega)]
 simp only [show decide ((0:Int)=1)=false from rfl,Bool.or_false,cond_false,decide_true,Bool.not_true]
 by_cases h13:i.op=13
 ·rw [decide_eq_true h13]
  simp only [cond_true]
  unfold frCall rCall
  rw [ht,hc h13,decide_eq_false (show ¬t.pc=1000 by omega)]
  rfl
 ·rw [decide_eq_false h13]
  simp only [cond_false]
  by_cases h14:i.op=14
  ·rw [decide_eq_true h14]
   simp only [cond_true]
   unfold frBack rBack
   rw [ht]
   rfl
  ·rw [decide_eq_false h14]
   rfl
theorem loApply_left {k:Int} {i:Ins} {t:Thr} (ht:thRight t=true) (hk:inn k 0 7=true) (h0:t.state=0) (hl:0 < t.left.length) (hp:t.pc < 1000):(loApply k i t).2=9:=by
 have hr:loReady t k=9:=by
  unfold loReady
  rw [ht,hk,decide_eq_true h0,decide_eq_true hl];rfl
 unfold loApply
 rw [hr,decide_eq_false (show ¬t.pc=1000 by omega)]
 rfl
theorem code_at {w:Wd} {t:Thr} (h0:0≤t.pc) (h1:t.pc < w.code.length):instrAt w t=at' w.code t.pc:=by
 unfold instrAt
 rw [decide_eq_true (by omega)];rfl
theorem instr_end {w:Wd} {t:Thr} (h1:¬t.pc < w.code.length):instrAt w t=⟨27,0,0,0⟩:=by
 unfold instrAt
 rw [decide_eq_false (by omega)];rfl
theorem insK_at {w:Wd} {t:Thr} (h:WdR w) (h0:0≤t.pc) (h1:t.pc < w.code.length):InsK w.code.length (at' w.code t.pc):=by
 have hc:=h.code
 have hl:=h.cl
 unfold rightC at hc
 rw [Bool.and_eq_true,List.all_eq_true] at hc
 obtain ⟨q,hq⟩:∃ q:Nat,t.pc=q:=⟨t.pc.toNat,by omega⟩
 rw [hq]
 exact insK_may hl (hc.2 _ (at_mem (by omega)))
end Go.AL
end
section
set_option maxRecDepth 100000
namespace Go.AL
open Go Go.Proofs
attribute [local irreducible] J
theorem rfr_of {w:Wd} {k:Nat} (h:WdR w) (hk:k < w.thr.length) (hp:(thrAt w k).pc < w.code.length):RfR w k:=by
 have hd:=DoR.of h hk
 have hs:=h.tso.sz
 have hl:=h.cl
 exact ⟨h.tso,by rw [←h.len];exact hk,hk,by rw [h.len];omega,hd.pc.1,by omega⟩
theorem doOp_lo {w:Wd} {k:Nat} {t:Thr} {op a b c:Int} (h1:1≤op) (h15:op≤15):doOp w k t ⟨op,a,b,c⟩=cond (decide ((loApply k ⟨op,a,b,c⟩ t).2=0)) (setT w k (loApply k ⟨op,a,b,c⟩ t).1) (faultW w k (loApply k ⟨op,a,b,c⟩ t).2):=by
 unfold doOp
 rw [doN_lo w k t a b c h1 h15]
theorem rstep_ok (w:Wd) (k:Nat) (h:WdR w) (hk:k < w.thr.length) (hc:canW w k=true) (hev:w.evs.length≤900000):ACalls Tryz.prog 162 [encWd w,iv (k:Int)] [] (one (encWd (doW w k)) []):=by
 have hd:=DoR.of h hk
 have hsz:=h.tso.sz
 have hl8:w.thr.length≤8:=by rw [h.len];omega
 have hk1:(k:Int) < w.thr.length:=by omega
 have hst:=canW_state hc
 have hth:=thrAt_at hk
 have hmem:=h.thr (thrAt w k) (by rw [hth];exact at_mem hk)
 unfold doW
 by_cases hpc:(thrAt w k).pc < w.code.length
 ·have hrf:=rfr_of h hk hpc
  rw [code_at hd.pc.1 hpc]
  have hik:=insK_at h hd.pc.1 hpc
  have hp0:=hd.pc.1
  have hput:=fun t=>rput_ok w k t (by omega)
  have hflt:=fun e=>rfault_ok w k e hk (by omega)
  generalize hi:at' w.code (thrAt w k).pc=i at *
  obtain ⟨op,a,b,c⟩:=i
  obtain ⟨⟨o0,o1⟩,hab,hcc,hlo,hcall⟩:=hik
  simp only at o0 o1 hab hcc hlo hcall
  rw [hth] at hi hpc hp0
  have hge:decide ((at' w.thr (k:Int)).pc≥(((w.code.map encIns).length:Nat):Int))=false:=decide_eq_false (by rw [List.length_map];omega)
  rcases (by omega:op=0∨(1≤op∧op≤15)∨(op=16∨op=17)∨(op=19∨op=20∨op=21)∨op=22∨(op=24∨op=25)∨(op=18∨op=23)∨op=26) with rfl|ho|ho|ho|rfl|ho|ho|rfl
  ·have e0:doOp w k (thrAt w k) ⟨0,a,b,c⟩=setT w k { thrAt w k with state:=1 }:=rfl
   rw [e0]
   have h4:=hput { thrAt w k with state:=1 }
   rw [hth] at h4 ⊢
   generalize hT:at' w.thr (k:Int)=T at *
   rw [encThr_agg] at h4
   generalize setT w k { T with state:=1 }=w1 at *
   unfold encWd wCells ivs at *
   refine jC Tryz.func162 Tryz.ntmps162 (fun w0 β0 ext hβ=>?_)
   repeat (first|refine jS ?_|refine jD ?_|refine jB ?_|refine jI (Int.natCast_nonneg k) hk1 ?_)
   rw [hT,hge]
   repeat (first|refine jS ?_|refine jD ?_|refine jB ?_|refine jI hp0 hpc ?_)
   rw [hi]
   repeat (first|refine jS ?_|refine jD ?_|refine jB ?_|refine jV h4 ?_)
   exact jR
  ·rw [doOp_lo ho.1 ho.2]
   have hin:inn op 1 15=true:=inn_iff.2 ho
   have hloc:=rlocal_ok op
   rw [hin] at hloc
   have ho0:(op == 0)=false:=by rw [beq_eq_false_iff_ne];omega
   have hk7:inn (k:Int) 0 7=true:=inn_iff.2 ⟨by omega,by omega⟩
   by_cases hl:0 < (thrAt w k).left.length
   ·rw [loApply_left hmem.1 hk7 hst hl (by rw [hth];exact (by have:=h.cl;omega))]
    rw [show decide ((9:Int)=0)=false from rfl]
    have h5:=hflt 9
    simp only [cond_false]
    generalize faultW w k 9=w1 at *
    rw [hth] at hl
    have hd:decide (((((at' w.thr (k:Int)).left.map iv).length:Nat):Int) > 0)=true:=decide_eq_true (by rw [List.length_map];omega)
    generalize hT:at' w.thr (k:Int)=T at *
    unfold encWd wCells ivs at *
    refine jC Tryz.func162 Tryz.ntmps162 (fun w0 β0 ext hβ=>?_)
    repeat (first|refine jS ?_|refine jD ?_|refine jB ?_|refine jI (Int.natCast_nonneg k) hk1 ?_)
    rw [hT,hge]
    repeat (first|refine jS ?_|refine jD ?_|refine jB ?_|refine jI hp0 hpc ?_)
    rw [hi]
    repeat (first|refine jS ?_|refine jD ?_|refine jB ?_)
    rw [ho0]
    repeat (first|refine jS ?_|refine jD ?_|refine jB ?_|refine jV hloc ?_)
    rw [hd]
    repeat (first|refine jS ?_|refine jD ?_|refine jB ?_|refine jV h5 ?_)
    exact jR
   ·have hl0:(thrAt w k).left=[]:=List.length_eq_zero_iff.1 (by omega)
    have hpc1:(thrAt w k).pc < 1000:=hrf.pc.2
    have hlm:=hlo hin
    rw [loApply_eq hmem.1 hk7 hst hl0 hpc1 hin hlm (fun h13=>by have:=hcall h13;have:=h.cl;exact inn_iff.2 ⟨by simp only;omega,by simp only;omega⟩)]
    have hap:=rapply_ok (thrAt w k) k ⟨op,a,b,c⟩ ⟨hd.pc.1,hpc1⟩ (by have:=hd.frames;omega) hlm hin
    rw [hth] at hl hap ⊢
    have hdl:decide (((((at' w.thr (k:Int)).left.map iv).length:Nat):Int) > 0)=false:=decide_eq_false (by rw [List.length_map];omega)
    generalize hT:at' w.thr (k:Int)=T at *
    generalize rApp (k:Int) ⟨op,a,b,c⟩ T=r at *
    obtain ⟨x,e⟩:=r
    simp only at *
    have h4:=hput x
    have h5:=hflt e
    rw [show encIns ⟨op,a,b,c⟩ = .agg [iv op,iv a,iv b,iv c] from rfl] at hap
    by_cases he:e=0
    ·subst he
     rw [resThr_ok] at hap
     simp only [decide_true,cond_true]
     rw [encThr_agg] at h4
     rw [encThr_agg,encThr_agg] at hap
     generalize setT w k x=w1 at *
     unfold encWd wCells ivs at *
     refine jC Tryz.func162 Tryz.ntmps162 (fun w0 β0 ext hβ=>?_)
     repeat (first|refine jS ?_|refine jD ?_|refine jB ?_|refine jI (Int.natCast_nonneg k) hk1 ?_)
     rw [hT,hge]
     repeat (first|refine jS ?_|refine jD ?_|refine jB ?_|refine jI hp0 hpc ?_)
     rw [hi]
     repeat (first|refine jS ?_|refine jD ?_|refine jB ?_)
     rw [ho0]
     repeat (first|refine jS ?_|refine jD ?_|refine jB ?_|refine jV hloc ?_)
     rw [hdl]
     repeat (first|refine jS ?_|refine jD ?_|refine jB ?_|refine jV hloc ?_|refine jV hap ?_|refine jV h4 ?_)
     exact jR
    ·have hr:resThr (x,e)=thrE0:=by unfold resThr;rw [decide_eq_false he];rfl
     rw [hr] at hap
     rw [decide_eq_false he]
     simp only [cond_false]
     rw [encThr_agg] at hap
     unfold thrE0 at hap
     generalize faultW w k e=w1 at *
     have hne:(e != 0)=true:=by rw [bne_iff_ne];exact he
     unfold encWd wCells ivs at *
     refine jC Tryz.func162 Tryz.ntmps162 (fun w0 β0 ext hβ=>?_)
     repeat (first|refine jS ?_|refine jD ?_|refine jB ?_|refine jI (Int.natCast_nonneg k) hk1 ?_)
     rw [hT,hge]
     repeat (first|refine jS ?_|refine jD ?_|refine jB ?_|refine jI hp0 hpc ?_)
     rw [hi]
     repeat (first|refine jS ?_|refine jD ?_|refine jB ?_)
     rw [ho0]
     repeat (first|refine jS ?_|refine jD ?_|refine jB ?_|refine jV hloc ?_)
     rw [hdl]
     repeat (first|refine jS ?_|refine jD ?_|refine jB ?_|refine jV hloc ?_|refine jV hap ?_)
     rw [hne]
     repeat (first|refine jS ?_|refine jD ?_|refine jB ?_|refine jV h5 ?_)
     exact jR
  ·have hrg:=hab (by omega)
   have e:ACalls Tryz.prog 209 [encWd w,iv (k:Int),.agg [iv op,iv a,iv b,iv c]] [] (one (encWd (doOp w k (thrAt w k) ⟨op,a,b,c⟩)) []):=by
    rcases ho with rfl|rfl
    ·exact racc16_ok w k a b c hrf hrg.1 hrg.2
    ·exact racc17_ok w k a b c hrf hrg.1 hrg.2
   have hloc:=rlocal_ok op
   rw [show inn op 1 15=false from by cases hi:inn op 1 15 with|false=>rfl|true=>have:=inn_iff.1 hi;omega] at hloc
   generalize doOp w k (thrAt w k) ⟨op,a,b,c⟩=w1 at *
   generalize hT:at' w.thr (k:Int)=T at *
   unfold encWd wCells ivs at *
   rcases ho with rfl|rfl
   all_goals (
    refine jC Tryz.func162 Tryz.ntmps162 (fun w0 β0 ext hβ=>?_)
    repeat (first|refine jS ?_|refine jD ?_|refine jB ?_|refine jI (Int.natCast_nonneg k) hk1 ?_)
    rw [hT,hge]
    repeat (first|refine jS ?_|refine jD ?_|refine jB ?_|refine jI hp0 hpc ?_)
    rw [hi]
    repeat (first|refine jS ?_|refine jD ?_|refine jB ?_|refine jV hloc ?_|refine jV e ?_)
   )
   all_goals exact jR
  ·have hrg:=hab (by omega)
   have e:ACalls Tryz.prog 210 [encWd w,iv (k:Int),.agg [iv op,iv a,iv b,iv c]] [] (one (encWd (doOp w k (thrAt w k) ⟨op,a,b,c⟩)) []) :=
    rlock_ok op (op-19) (by omega) w k a b c hrf hrg.1 hrg.2 hcc
   have hloc:=rlocal_ok op
   rw [show inn op 1 15=false from by cases hi:inn op 1 15 with|false=>rfl|true=>have:=inn_iff.1 hi;omega] at hloc
   generalize doOp w k (thrAt w k) ⟨op,a,b,c⟩=w1 at *
   generalize hT:at' w.thr (k:Int)=T at *
   unfold encWd wCells ivs at *
   rcases ho with rfl|rfl|rfl
   all_goals (
    refine jC Tryz.func162 Tryz.ntmps162 (fun w0 β0 ext hβ=>?_)
    repeat (first|refine jS ?_|refine jD ?_|refine jB ?_|refine jI (Int.natCast_nonneg k) hk1 ?_)
    rw [hT,hge]
    repeat (first|refine jS ?_|refine jD ?_|refine jB ?_|refine jI hp0 hpc ?_)
    rw [hi]
    repeat (first|refine jS ?_|refine jD ?_|refine jB ?_|refine jV hloc ?_|refine jV e ?_)
   )
   all_goals exact jR
  ·have e:=rbroad_ok w k a b c hrf
   have hloc:=rlocal_ok 22
   rw [show inn 22 1 15=false from rfl] at hloc
   generalize doOp w k (thrAt w k) ⟨22,a,b,c⟩=w1 at *
   generalize hT:at' w.thr (k:Int)=T at *
   unfold encWd wCells ivs at *
   refine jC Tryz.func162 Tryz.ntmps162 (fun w0 β0 ext hβ=>?_)
   repeat (first|refine jS ?_|refine jD ?_|refine jB ?_|refine jI (Int.natCast_nonneg k) hk1 ?_)
   rw [hT,hge]
   repeat (first|refine jS ?_|refine jD ?_|refine jB ?_|refine jI hp0 hpc ?_)
   rw [hi]
   repeat (first|refine jS ?_|refine jD ?_|refine jB ?_|refine jV hloc ?_|refine jV e ?_)
   exact jR
  ·have hrg:=hab (by omega)
   have e:ACalls Tryz.prog 212 [encWd w,iv (k:Int),.agg [iv op,iv a,iv b,iv c]] [] (one (encWd (doOp w k (thrAt w k) ⟨op,a,b,c⟩)) []) :=
    rmarkI_ok op (op-23) (by omega) w k a b c hrf hrg.1 hrg.2
   have hloc:=rlocal_ok op
   rw [show inn op 1 15=false from by cases hi:inn op 1 15 with|false=>rfl|true=>have:=inn_iff.1 hi;omega] at hloc
   generalize doOp w k (thrAt w k) ⟨op,a,b,c⟩=w1 at *
   generalize hT:at' w.thr (k:Int)=T at *
   unfold encWd wCells ivs at *
   rcases ho with rfl|rfl
   all_goals (
    refine jC Tryz.func162 Tryz.ntmps162 (fun w0 β0 ext hβ=>?_)
    repeat (first|refine jS ?_|refine jD ?_|refine jB ?_|refine jI (Int.natCast_nonneg k) hk1 ?_)
    rw [hT,hge]
    repeat (first|refine jS ?_|refine jD ?_|refine jB ?_|refine jI hp0 hpc ?_)
    rw [hi]
    repeat (first|refine jS ?_|refine jD ?_|refine jB ?_|refine jV hloc ?_|refine jV e ?_)
   )
   all_goals exact jR
  ·have e0:doOp w k (thrAt w k) ⟨op,a,b,c⟩=setT w k (pc1 (thrAt w k)):=by
    rcases ho with rfl|rfl<;>rfl
   rw [e0]
   have hloc:=rlocal_ok op
   rw [show inn op 1 15=false from by cases hi:inn op 1 15 with|false=>rfl|true=>have:=inn_iff.1 hi;omega] at hloc
   have h4:=hput (pc1 (thrAt w k))
   have hw:IntKind.i64.wrap ((at' w.thr (k:Int)).pc+1)=(at' w.thr (k:Int)).pc+1:=by have:=h.cl;rw [wrap_id]<;>omega
   rw [hth] at h4 ⊢
   generalize hT:at' w.thr (k:Int)=T at *
   rw [encThr_agg] at h4
   generalize setT w k (pc1 T)=w1 at *
   unfold encWd wCells ivs at *
   rcases ho with rfl|rfl
   all_goals (
    refine jC Tryz.func162 Tryz.ntmps162 (fun w0 β0 ext hβ=>?_)
    repeat (first|refine jS ?_|refine jD ?_|refine jB ?_|refine jI (Int.natCast_nonneg k) hk1 ?_)
    rw [hT,hge]
    repeat (first|refine jS ?_|refine jD ?_|refine jB ?_|refine jI hp0 hpc ?_)
    rw [hi]
    repeat (first|refine jS ?_|refine jD ?_|refine jB ?_|refine jV hloc ?_)
    rw [hw]
    repeat (first|refine jS ?_|refine jD ?_|refine jB ?_|refine jV h4 ?_)
   )
   all_goals exact jR
  ·have e0:doOp w k (thrAt w k) ⟨26,a,b,c⟩=setT { w with evs:=w.evs++[(⟨a,k,[g0 (thrAt w k).regs 0,g0 (thrAt w k).regs 1,g0 (thrAt w k).regs 2,g0 (thrAt w k).regs 3]⟩:Evt)] } k (pc1 (thrAt w k)):=rfl
   rw [e0]
   have hloc:=rlocal_ok 26
   rw [show inn 26 1 15=false from rfl] at hloc
   have h4:=rput_ok { w with evs:=w.evs++[(⟨a,k,[g0 (thrAt w k).regs 0,g0 (thrAt w k).regs 1,g0 (thrAt w k).regs 2,g0 (thrAt w k).regs 3]⟩:Evt)] } k (pc1 (thrAt w k)) (by show w.thr.length≤1000;omega)
   have hw:IntKind.i64.wrap ((at' w.thr (k:Int)).pc+1)=(at' w.thr (k:Int)).pc+1:=by have:=h.cl;rw [wrap_id]<;>omega
   rw [hth] at h4 ⊢
   generalize hT:at' w.thr (k:Int)=T at *
   rw [encThr_agg] at h4
   generalize setT { w with evs:=w.evs++[(⟨a,k,[g0 T.regs 0,g0 T.regs 1,g0 T.regs 2,g0 T.regs 3]⟩:Evt)] } k (pc1 T)=w1 at *
   unfold encWd wCells ivs at *
   simp only at h4
   refine jC Tryz.func162 Tryz.ntmps162 (fun w0 β0 ext hβ=>?_)
   repeat (first|refine jS ?_|refine jD ?_|refine jB ?_|refine jI (Int.natCast_nonneg k) hk1 ?_)
   rw [hT,hge]
   repeat (first|refine jS ?_|refine jD ?_|refine jB ?_|refine jI hp0 hpc ?_)
   rw [hi]
   repeat (first|refine jad 9 49 6 rfl rfl rfl rfl ?_|refine jS ?_|refine jD ?_|refine jB ?_|refine jV hloc ?_)
   refine jo rfl rfl (append_encs (enc:=encEvt) (l:=[]) (l2:=w.evs) rfl rfl rfl rfl rfl rfl rfl rfl rfl (fun x=>⟨rfl,rfl⟩) rfl (by simp only [List.length_nil];omega) rfl rfl) rfl rfl ?_
   repeat (first|refine jS ?_|refine jD ?_|refine jB ?_|refine jo rfl rfl (index_arr rfl rfl rfl rfl rfl (by decide) (by decide)) rfl rfl ?_)
   refine jo rfl rfl (append_enc (enc:=encEvt) (l:=w.evs) (⟨a,k,[g0 T.regs 0,g0 T.regs 1,g0 T.regs 2,g0 T.regs 3]⟩:Evt) rfl rfl rfl rfl rfl rfl rfl rfl rfl rfl (fun x=>⟨rfl,rfl⟩) rfl (by omega) rfl rfl) rfl rfl ?_
   refine jS ?_;refine jS ?_;refine jS ?_
   refine jS ?_
   refine jfin 4 [1,2,4,5,6] true rfl rfl rfl (by show β0.length≤4;rw [hβ];exact Nat.zero_le _) ?_
   repeat (first|refine jS ?_|refine jD ?_|refine jB ?_)
   rw [hw]
   repeat (first|refine jS ?_|refine jD ?_|refine jB ?_|refine jV h4 ?_)
   exact jR
 ·rw [instr_end hpc]
  have e0:doOp w k (thrAt w k) ⟨27,0,0,0⟩=faultW w k 3:=rfl
  rw [e0]
  have h5:=rfault_ok w k 3 hk (by omega)
  generalize faultW w k 3=w1 at *
  rw [hth] at hpc
  have hge:decide ((at' w.thr (k:Int)).pc≥(((w.code.map encIns).length:Nat):Int))=true:=decide_eq_true (by rw [List.length_map];omega)
  generalize hT:at' w.thr (k:Int)=T at *
  unfold encWd wCells ivs at *
  refine jC Tryz.func162 Tryz.ntmps162 (fun w0 β0 ext hβ=>?_)
  repeat (first|refine jS ?_|refine jD ?_|refine jB ?_|refine jI (Int.natCast_nonneg k) hk1 ?_)
  rw [hT,hge]
  repeat (first|refine jS ?_|refine jD ?_|refine jB ?_|refine jV h5 ?_)
  exact jR
end Go.AL
end
section
set_option maxRecDepth 100000
namespace Go.AL
open Go Go.Proofs
attribute [local irreducible] J
theorem any_pos {l:List Int}:((∀ q,q < l.length→¬at' l (q:Int) > 0)→(l.any fun n=>decide (n > 0))=false)∧∀ q,q < l.length→at' l (q:Int) > 0→(l.any fun n=>decide (n > 0))=true:=by
 refine ⟨fun h=>?_,fun q hq h=>?_⟩
 ·rw [List.any_eq_false]
  intro x hx
  obtain ⟨i,hi,rfl⟩:=List.getElem_of_mem hx
  have:=h i hi
  rw [at_nat l i hi] at this
  simpa using this
 ·rw [List.any_eq_true]
  rw [at_nat l q hq] at h
  exact ⟨_,List.getElem_mem hq,decide_eq_true h⟩
theorem rcan_ok (w:Wd) (k:Nat) (h:WdR w) (hk:k < w.thr.length):ACalls Tryz.prog 161 [encWd w,iv (k:Int)] [] (one (bv (canW w k)) []):=by
 have hd:=DoR.of h hk
 have hsz:=h.tso.sz
 have hl8:w.thr.length≤8:=by rw [h.len];omega
 have hk1:(k:Int) < w.thr.length:=by omega
 have hkb:(k:Int) < w.tso.bufs.length:=by rw [←h.len];omega
 have hth:=thrAt_at hk
 unfold canW
 by_cases hst:(thrAt w k).state=0
 ·rw [decide_eq_true hst]
  by_cases hpc:(thrAt w k).pc < w.code.length
  ·rw [code_at hd.pc.1 hpc]
   have hik:=insK_at h hd.pc.1 hpc
   have hp0:=hd.pc.1
   have hlf:=hd.left
   generalize hi:at' w.code (thrAt w k).pc=i at *
   obtain ⟨op,a,b,c⟩:=i
   obtain ⟨⟨o0,o1⟩,hab,hcc,hlo,hcall⟩:=hik
   simp only at o0 o1 hab hcc hlo hcall
   rw [hth] at hi hpc hp0 hst hlf ⊢
   have hge:decide ((at' w.thr (k:Int)).pc≥(((w.code.map encIns).length:Nat):Int))=false:=decide_eq_false (by rw [List.length_map];omega)
   have hs0:((at' w.thr (k:Int)).state != 0)=false:=by rw [bne_eq_false_iff_eq];exact hst
   have hbl:bufAt w.tso k=at' w.tso.bufs (k:Int):=rfl
   generalize hT:at' w.thr (k:Int)=T at *
   rcases (by omega:op=17∨(op=18∨op=19∨op=20∨op=21)∨op=22∨op=23∨(op < 17∨op > 23)) with rfl|ho|rfl|rfl|ho
   ·have e0:canOp w k T ⟨17,a,b,c⟩=(decide (((bufAt w.tso k).length:Int) < w.tso.depth)||decide (w.tso.depth=0)):=rfl
    rw [e0,hbl]
    generalize hB:at' w.tso.bufs (k:Int)=B at *
    unfold encWd wCells ivs at *
    refine jC Tryz.func161 Tryz.ntmps161 (fun w0 β0 ext hβ=>?_)
    repeat (first|refine jS ?_|refine jD ?_|refine jB ?_|refine jI (Int.natCast_nonneg k) hk1 ?_)
    rw [hT,hs0]
    repeat (first|refine jS ?_|refine jD ?_|refine jB ?_)
    rw [hge]
    repeat (first|refine jS ?_|refine jD ?_|refine jB ?_|refine jI hp0 hpc ?_)
    rw [hi]
    repeat (first|refine jS ?_|refine jD ?_|refine jB ?_|refine jI (Int.natCast_nonneg k) hkb ?_)
    rw [hB]
    repeat (first|refine jS ?_|refine jD ?_|refine jB ?_)
    rw [show (w.tso.depth == 0)=decide (w.tso.depth=0) from rfl]
    cases hz:decide (w.tso.depth=0) with
    | true =>
     repeat (first|refine jS ?_|refine jD ?_|refine jB ?_)
     rw [Bool.or_true]
     exact jR
    | false =>
     repeat (first|refine jS ?_|refine jD ?_|refine jB ?_)
     rw [show decide ((((B.map encPut).length:Nat):Int) < w.tso.depth)=decide ((B.length:Int) < w.tso.depth) from by rw [List.length_map]]
     repeat (first|refine jS ?_|refine jD ?_|refine jB ?_)
     rw [Bool.or_false]
     exact jR
   ·have e0:canOp w k T ⟨op,a,b,c⟩=decide ((bufAt w.tso k).length=0):=by rcases ho with rfl|rfl|rfl|rfl<;>rfl
    rw [e0,hbl]
    generalize hB:at' w.tso.bufs (k:Int)=B at *
    have hd0:((((B.map encPut).length:Nat):Int) == 0)=decide (B.length=0):=by rw [List.length_map,int_beq];exact decide_eq_decide.2 (by omega)
    unfold encWd wCells ivs at *
    rcases ho with rfl|rfl|rfl|rfl
    all_goals (
     refine jC Tryz.func161 Tryz.ntmps161 (fun w0 β0 ext hβ=>?_)
     repeat (first|refine jS ?_|refine jD ?_|refine jB ?_|refine jI (Int.natCast_nonneg k) hk1 ?_)
     rw [hT,hs0]
     repeat (first|refine jS ?_|refine jD ?_|refine jB ?_)
     rw [hge]
     repeat (first|refine jS ?_|refine jD ?_|refine jB ?_|refine jI hp0 hpc ?_)
     rw [hi]
     repeat (first|refine jS ?_|refine jD ?_|refine jB ?_|refine jI (Int.natCast_nonneg k) hkb ?_)
     rw [hB]
     repeat (first|refine jS ?_|refine jD ?_|refine jB ?_)
     rw [hd0]
     repeat (first|refine jS ?_|refine jD ?_|refine jB ?_)
    )
    all_goals exact jR
   ·have e0:canOp w k T ⟨22,a,b,c⟩ = !T.left.any fun n=>decide (n > 0):=rfl
    rw [e0]
    obtain ⟨ha1,ha2⟩:=any_pos (l:=T.left)
    unfold encWd wCells ivs at *
    refine jC Tryz.func161 Tryz.ntmps161 (fun w0 β0 ext hβ=>?_)
    repeat (first|refine jS ?_|refine jD ?_|refine jB ?_|refine jI (Int.natCast_nonneg k) hk1 ?_)
    rw [hT,hs0]
    repeat (first|refine jS ?_|refine jD ?_|refine jB ?_)
    rw [hge]
    repeat (first|refine jS ?_|refine jD ?_|refine jB ?_|refine jI hp0 hpc ?_)
    rw [hi]
    repeat (first|refine jS ?_|refine jD ?_|refine jB ?_|refine jI (Int.natCast_nonneg k) hkb ?_)
    refine jweak 78 (.sl (T.left.map iv)) rfl rfl (fun c u h=>slz_weak h) ?_
    refine jloopI (fun q:Nat=>q≤T.left.length∧∀ p,p < q→¬at' T.left (p:Int) > 0) [2,4,5,6,78,79,80] (fun q=>[.ptr 0 0,bv false,.ptr 1 0,.ptr 2 0,.sl (T.left.map iv),.v (.int .i64 ((T.left.map iv).length:Int)),.v (.int .i64 (q:Int))])
     (fun q=>_) (fun q=>T.left.length-q) 0 ⟨Nat.zero_le _,fun p hp=>absurd hp (Nat.not_lt_zero _)⟩ rfl rfl (fun q hq=>?_)
    obtain ⟨hq,hok⟩:=hq
    repeat (first|refine jS ?_|refine jD ?_|refine jB ?_)
    refine jc rfl rfl rfl (fun h=>?_) (fun h=>?_)
    ·have h:=of_decide_eq_true h
     rw [List.length_map] at h
     have hq2:q < T.left.length:=by omega
     have hidx:IntKind.i64.wrap ((q:Int)+1)=((q+1:Nat):Int):=idx_next hq2 (by omega)
     have ha2:=ha2 q hq2
     repeat (first|refine jS ?_|refine jD ?_|refine jB ?_|refine jI (Int.natCast_nonneg q) h ?_)
     by_cases e:at' T.left (q:Int) > 0
     ·rw [decide_eq_true e,ha2 e]
      repeat (first|refine jS ?_|refine jD ?_|refine jB ?_)
      exact jR
     ·rw [decide_eq_false e]
      repeat (first|refine jS ?_|refine jD ?_|refine jB ?_)
      refine jnextI (q+1) ⟨hq2,fun p hp=>?_⟩ ?_ rfl (by omega)
      ·by_cases ep:p=q
       ·subst ep;exact e
       ·exact hok p (by omega)
      ·show some _=some _
       rw [hidx]
    ·have h:=of_decide_eq_false h
     rw [List.length_map] at h
     rw [ha1 fun p hp=>hok p (by omega)]
     repeat (first|refine jS ?_|refine jD ?_|refine jB ?_)
     exact jR
   ·have hrg:=hab (by omega)
    have e0:canOp w k T ⟨23,a,b,c⟩=(decide ((bufAt w.tso k).length=0)&&(!decide ((mLoad w.tso.mem (rg T b)).2=0) || !decide ((mLoad w.tso.mem (rg T b)).1=rg T a))):=rfl
    rw [e0,hbl]
    have h2:=rload_ok w.tso.mem (rg T b) h.tso.mem
    have gb:=th_get T hrg.2.1 hrg.2.2
    have ga:=th_get T hrg.1.1 hrg.1.2
    generalize hB:at' w.tso.bufs (k:Int)=B at *
    have hd0:((((B.map encPut).length:Nat):Int) == 0)=decide (B.length=0):=by rw [List.length_map,int_beq];exact decide_eq_decide.2 (by omega)
    generalize mLoad w.tso.mem (rg T b)=ld at *
    obtain ⟨v,e⟩:=ld
    unfold encMem mCells ivs at h2
    unfold thCells rg at *
    simp only at *
    unfold encWd wCells ivs at *
    refine jC Tryz.func161 Tryz.ntmps161 (fun w0 β0 ext hβ=>?_)
    repeat (first|refine jS ?_|refine jD ?_|refine jB ?_|refine jI (Int.natCast_nonneg k) hk1 ?_)
    rw [hT,hs0]
    repeat (first|refine jS ?_|refine jD ?_|refine jB ?_)
    rw [hge]
    repeat (first|refine jS ?_|refine jD ?_|refine jB ?_|refine jI hp0 hpc ?_)
    rw [hi]
    repeat (first|refine jS ?_|refine jD ?_|refine jB ?_|refine jI (Int.natCast_nonneg k) hkb ?_)
    rw [hB]
    repeat (first|refine jS ?_|refine jD ?_|refine jB ?_|refine jo rfl rfl (index_arr rfl rfl rfl rfl rfl hrg.2.1 hrg.2.2) rfl rfl ?_|refine jo rfl rfl (load_dsem (r:=ty3) rfl rfl rfl gb) rfl rfl ?_|refine jV h2 ?_)
    rw [hd0]
    cases hz:decide (B.length=0) with
    | false =>
     repeat (first|refine jS ?_|refine jD ?_|refine jB ?_)
     exact jR
    | true =>
     by_cases he:e=0
     ·subst he
      repeat (first|refine jS ?_|refine jD ?_|refine jB ?_|refine jo rfl rfl (index_arr rfl rfl rfl rfl rfl hrg.1.1 hrg.1.2) rfl rfl ?_|refine jo rfl rfl (load_dsem (r:=ty3) rfl rfl rfl ga) rfl rfl ?_)
      rw [show (v != g0 T.regs a.toNat) = !decide (v=g0 T.regs a.toNat) from rfl]
      exact jR
     ·repeat (first|refine jS ?_|refine jD ?_|refine jB ?_)
      rw [show (e != 0)=true from by rw [bne_iff_ne];exact he]
      rw [decide_eq_false he]
      repeat (first|refine jS ?_|refine jD ?_|refine jB ?_)
      exact jR
   ·have e0:canOp w k T ⟨op,a,b,c⟩=true:=by
     unfold canOp
     simp only
     split<;>first|rfl|(exfalso;omega)
    rw [e0]
    have x17:(op == 17)=false:=by rw [beq_eq_false_iff_ne];omega
    have x18:(op == 18)=false:=by rw [beq_eq_false_iff_ne];omega
    have x19:(op == 19)=false:=by rw [beq_eq_false_iff_ne];omega
    have x20:(op == 20)=false:=by rw [beq_eq_false_iff_ne];omega
    have x21:(op == 21)=false:=by rw [beq_eq_false_iff_ne];omega
    have x22:(op == 22)=false:=by rw [beq_eq_false_iff_ne];omega
    have x23:(op == 23)=false:=by rw [beq_eq_false_iff_ne];omega
    unfold encWd wCells ivs at *
    refine jC Tryz.func161 Tryz.ntmps161 (fun w0 β0 ext hβ=>?_)
    repeat (first|refine jS ?_|refine jD ?_|refine jB ?_|refine jI (Int.natCast_nonneg k) hk1 ?_)
    rw [hT,hs0]
    repeat (first|refine jS ?_|refine jD ?_|refine jB ?_)
    rw [hge]
    repeat (first|refine jS ?_|refine jD ?_|refine jB ?_|refine jI hp0 hpc ?_)
    rw [hi]
    repeat (first|refine jS ?_|refine jD ?_|refine jB ?_|refine jI (Int.natCast_nonneg k) hkb ?_)
    rw [x17]
    repeat (first|refine jS ?_|refine jD ?_|refine jB ?_)
    rw [x18]
    repeat (first|refine jS ?_|refine jD ?_|refine jB ?_)
    rw [x19]
    repeat (first|refine jS ?_|refine jD ?_|refine jB ?_)
    rw [x20]
    repeat (first|refine jS ?_|refine jD ?_|refine jB ?_)
    rw [x21]
    repeat (first|refine jS ?_|refine jD ?_|refine jB ?_)
    rw [x22]
    repeat (first|refine jS ?_|refine jD ?_|refine jB ?_)
    rw [x23]
    repeat (first|refine jS ?_|refine jD ?_|refine jB ?_)
    exact jR
  ·rw [instr_end hpc]
   rw [hth] at hpc hst ⊢
   have hge:decide ((at' w.thr (k:Int)).pc≥(((w.code.map encIns).length:Nat):Int))=true:=decide_eq_true (by rw [List.length_map];omega)
   have hs0:((at' w.thr (k:Int)).state != 0)=false:=by rw [bne_eq_false_iff_eq];exact hst
   rw [show (true&&canOp w k (at' w.thr (k:Int)) ⟨27,0,0,0⟩)=true from rfl]
   generalize hT:at' w.thr (k:Int)=T at *
   unfold encWd wCells ivs at *
   refine jC Tryz.func161 Tryz.ntmps161 (fun w0 β0 ext hβ=>?_)
   repeat (first|refine jS ?_|refine jD ?_|refine jB ?_|refine jI (Int.natCast_nonneg k) hk1 ?_)
   rw [hT,hs0]
   repeat (first|refine jS ?_|refine jD ?_|refine jB ?_)
   rw [hge]
   repeat (first|refine jS ?_|refine jD ?_|refine jB ?_)
   exact jR
 ·rw [decide_eq_false hst]
  rw [hth] at hst
  have hs0:((at' w.thr (k:Int)).state != 0)=true:=by rw [bne_iff_ne];exact hst
  rw [Bool.false_and]
  generalize hT:at' w.thr (k:Int)=T at *
  unfold encWd wCells ivs at *
  refine jC Tryz.func161 Tryz.ntmps161 (fun w0 β0 ext hβ=>?_)
  repeat (first|refine jS ?_|refine jD ?_|refine jB ?_|refine jI (Int.natCast_nonneg k) hk1 ?_)
  rw [hT,hs0]
  repeat (first|refine jS ?_|refine jD ?_|refine jB ?_)
  exact jR
end Go.AL
end
section
set_option maxRecDepth 100000
namespace Go.AL
open Go Go.Proofs
attribute [local irreducible] J
theorem waned_take (l:List Thr) (k:Nat) {q:Nat} (h:q < l.length):(l.take (q+1)).map (waned k)=(l.take q).map (waned k)++[waned k (at' l (q:Int))]:=by
 rw [at_nat l q h,List.take_add_one,List.getElem?_eq_getElem h,List.map_append]
 rfl
theorem rflush_ok (w:Wd) (k:Nat) (h:WdR w) (hk:k < w.thr.length) {p:Wput} {r:List Wput} (hb:bufAt w.tso k=p::r):ACalls Tryz.prog 163 [encWd w,iv (k:Int)] [] (one (encWd (flushD w k p r)) []):=by
 have hkb:(k:Int) < w.tso.bufs.length:=by rw [←h.len];omega
 have hkb':k < w.tso.bufs.length:=by omega
 have hk1:(k:Int) < w.thr.length:=by omega
 have hsz:=h.tso.sz
 have hl8:w.thr.length≤8:=by rw [h.len];omega
 have h1:=rdrop_ok w.tso k h.tso hkb'
 have h2:=rstore_ok w.tso.mem p.loc p.val h.tso.mem
 have h5:=fun e=>rfault_ok (popW w k r) k e hk (by show w.thr.length≤1000;omega)
 have hth:=thrAt_at hk
 have hthr:∀ x∈w.thr,(x.left.length=0∨x.left.length=w.thr.length)∧∀ n∈x.left,0≤n∧n≤8:=fun x hx=>⟨(h.thr x hx).2,thRight_left (h.thr x hx).1⟩
 have hmem:thrAt w k∈w.thr:=by rw [hth];exact at_mem hk
 rw [hb] at h1
 rw [bufAt_at] at hb
 rw [flushD_eq]
 have hf:∀ e,faultW (popW w k r) k e=setT (popW w k r) k (fltT (thrAt w k) e):=fun e=>rfl
 simp only [hf] at h5
 generalize hms:mStore w.tso.mem p.loc p.val=ms at *
 obtain ⟨m',e⟩:=ms
 simp only at *
 generalize hy:cond (decide (e=0)) (memW (popW w k r) m') (cond (decide ((thrAt w k).state=2)) (popW w k r) (setT (popW w k r) k (fltT (thrAt w k) e)))=y
 have hyl:y.thr.length=w.thr.length:=by
  rw [←hy]
  cases decide (e=0) with
  | true=>rfl
  | false=>cases decide ((thrAt w k).state=2) with
   | true=>rfl
   | false=>show (w.thr.set k _).length=_;simp
 have hyt:∀ x∈y.thr,(x.left.length=0∨x.left.length=w.thr.length)∧∀ n∈x.left,0≤n∧n≤8:=by
  rw [←hy]
  cases decide (e=0) with
  | true=>exact hthr
  | false=>cases decide ((thrAt w k).state=2) with
   | true=>exact hthr
   | false =>
    intro x hx
    have hx:x∈w.thr.set k (fltT (thrAt w k) e):=hx
    rcases List.mem_or_eq_of_mem_set hx with hx|rfl
    ·exact hthr x hx
    ·exact hthr (thrAt w k) hmem
 have h5:=h5 e
 have h0:(0:Int) < (p::r).length:=by simp
 have ha:at' (p::r) 0=p:=rfl
 have hpe:encPut p = .agg [iv p.loc,iv p.val]:=rfl
 unfold encTso tCells ivs at h1
 unfold encMem mCells ivs at h2
 have hws:encWd (setT (popW w k r) k (fltT (thrAt w k) e)) = .agg (wCells (setT (popW w k r) k (fltT (thrAt w k) e))):=rfl
 rw [hws] at h5
 unfold wanW
 have hst:∀ n:Int,((thrAt w k).state != 2) = !decide ((thrAt w k).state=2):=fun _=>rfl
 rw [hth] at hst
 rw [hth] at hy h5
 unfold encWd
 refine jC Tryz.func163 Tryz.ntmps163 (fun w0 β0 ext hβ=>?_)
 unfold wCells ivs
 repeat (first|refine jS ?_|refine jD ?_|refine jB ?_|refine jI (Int.natCast_nonneg k) hkb ?_)
 rw [hb]
 repeat (first|refine jS ?_|refine jD ?_|refine jB ?_|refine jI (l:=p::r) (Int.le_refl 0) h0 ?_)
 rw [ha,hpe]
 repeat (first|refine jS ?_|refine jD ?_|refine jB ?_|refine jV h1 ?_|refine jV h2 ?_)
 refine jmid [1,2,4] [iv (k:Int),.ptr 0 0,.ptr 1 0] [.box 33 (wCells y),.box 33 [.slf [],.slf [],.slf [],iv 0,.slf [],.slf [],.slf []],.box 222 [iv p.loc,iv p.val],.box 26 [.sl (m'.words.map iv),.sl (m'.tags.map iv)]] ?_ ?_
 ·rw [show (e == 0)=decide (e=0) from rfl]
  cases he:decide (e=0) with
  | true =>
   rw [he] at hy
   simp only [cond_true] at hy
   subst hy
   unfold wCells memW popW ivs
   repeat (first|refine jS ?_|refine jD ?_|refine jB ?_)
   exact jmeet rfl rfl
  | false =>
   rw [he] at hy
   simp only [cond_false] at hy
   have hst:=hst 0
   cases hs:decide ((at' w.thr (k:Int)).state=2) with
   | true =>
    rw [hs] at hst hy
    simp only [cond_true] at hy
    subst hy
    unfold wCells popW ivs
    repeat (first|refine jS ?_|refine jD ?_|refine jB ?_|refine jI (Int.natCast_nonneg k) hk1 ?_)
    rw [hst]
    repeat (first|refine jS ?_|refine jD ?_|refine jB ?_)
    exact jmeet rfl rfl
   | false =>
    rw [hs] at hst hy
    simp only [cond_false] at hy
    rw [hy] at h5
    unfold encWd popW wCells ivs at h5
    simp only at h5
    unfold wCells ivs
    repeat (first|refine jS ?_|refine jD ?_|refine jB ?_|refine jI (Int.natCast_nonneg k) hk1 ?_)
    rw [hst]
    repeat (first|refine jS ?_|refine jD ?_|refine jB ?_|refine jV h5 ?_)
    exact jmeet rfl rfl
 ·clear h5 h1 h2 hy hst hf hws
  unfold wCells ivs
  repeat (first|refine jad 8 43 13 rfl rfl rfl rfl ?_|refine jS ?_|refine jD ?_|refine jB ?_)
  refine jfin 5 [1,2,4,8,53,54,55] true rfl rfl rfl (by show β0.length≤5;rw [hβ];exact Nat.zero_le _) ?_
  refine jloop 5 (fun q:Nat=>q≤y.thr.length) [1,2,4,8,53,54,55] (fun q=>[iv (k:Int),.ptr 0 0,.ptr 1 0,.arr 4 (q+1),.sl (y.thr.map encThr),.v (.int .i64 ((y.thr.map encThr).length:Int)),.v (.int .i64 (q:Int))])
   (fun q=>[.box 33 (wCells y),.box 33 w0C,.box 222 [iv p.loc,iv p.val],.box 26 [.sl (m'.words.map iv),.sl (m'.tags.map iv)],.arr (q+1) 43 13 (((y.thr.take q).map (waned k)).map encThr)]) (fun q=>y.thr.length-q) 0 (by show β0.length≤5;rw [hβ];exact Nat.zero_le _) (Nat.zero_le _) rfl rfl (fun q hq=>?_)
  unfold wCells ivs w0C
  repeat (first|refine jS ?_|refine jD ?_|refine jB ?_)
  refine jc rfl rfl rfl (fun h=>?_) (fun h=>?_)
  ·have h:=of_decide_eq_true h
   rw [List.length_map] at h
   have hq2:q < y.thr.length:=by omega
   have hidx:IntKind.i64.wrap ((q:Int)+1)=((q+1:Nat):Int):=idx_next hq2 (by omega)
   have htk:=waned_take y.thr k hq2
   have hln:((y.thr.take q).map (waned k)).length≤8:=by rw [List.length_map,List.length_take];omega
   obtain ⟨ht1,ht2⟩:=hyt _ (at_mem hq2)
   have hwn:waned k (at' y.thr (q:Int))=cond (decide (0 < (at' y.thr (q:Int)).left.length)) { at' y.thr (q:Int) with left:=(at' y.thr (q:Int)).left.set k (max (g0 (at' y.thr (q:Int)).left k-1) 0) } (at' y.thr (q:Int)):=rfl
   have hd:decide (((((at' y.thr (q:Int)).left.map iv).length:Nat):Int) > 0)=decide (0 < (at' y.thr (q:Int)).left.length):=by rw [List.length_map];exact decide_eq_decide.2 (by omega)
   generalize hT:at' y.thr (q:Int)=T at *
   generalize (y.thr.take q).map (waned k)=L at *
   repeat (first|refine jS ?_|refine jD ?_|refine jB ?_|refine jI (Int.natCast_nonneg q) h ?_)
   rw [hT,hd]
   cases hz:decide (0 < T.left.length) with
   | false =>
    rw [hz] at hwn
    simp only [cond_false] at hwn
    rw [hwn] at htk
    repeat (first|refine jS ?_|refine jD ?_|refine jB ?_)
    refine jo rfl rfl (append_enc (enc:=encThr) (l:=L) T rfl rfl rfl rfl rfl rfl rfl rfl rfl rfl (fun x=>⟨rfl,rfl⟩) rfl (by omega) rfl rfl) rfl rfl ?_
    repeat (first|refine jS ?_|refine jD ?_|refine jB ?_)
    refine jnext (q+1) hq2 (by omega) rfl rfl rfl ?_ ?_
    ·rw [hidx];rfl
    ·rw [htk];rfl
   | true =>
    rw [hz] at hwn
    simp only [cond_true] at hwn
    rw [hwn] at htk
    have hpos:=of_decide_eq_true hz
    have hkl:k < T.left.length:=by omega
    have hkT:(k:Int) < T.left.length:=by omega
    have hg0:0≤g0 T.left k∧g0 T.left k≤8:=ht2 _ (by unfold g0;rw [List.getD_eq_getElem?_getD,List.getElem?_eq_getElem hkl];exact List.getElem_mem hkl)
    have hmx:(if IntKind.i64.wrap (at' T.left (k:Int)-1) > (0:Int) then IntKind.i64.wrap (at' T.left (k:Int)-1) else (0:Int))=max (g0 T.left k-1) 0:=by
     rw [show at' T.left (k:Int)=g0 T.left k from rfl]
     rw [wrap_id (by omega) (by omega)]
     split<;>omega
    have hne:(T.left.set k (max (g0 T.left k-1) 0)).map iv≠[]:=by
     intro e
     have:=congrArg List.length e
     simp at this
     rw [this] at hpos
     simp at hpos
    have hw:=rwith_int T.left k (max (g0 T.left k-1) 0) (by omega)
    refine jc rfl rfl rfl (fun _=>?_) (fun hf=>absurd hf (by decide))
    repeat (first|refine jS ?_|refine jD ?_|refine jB ?_|refine jI (l:=T.left) (Int.natCast_nonneg k) hkT ?_)
    rw [hmx]
    refine jw hw rfl rfl rfl rfl rfl rfl ?_
    refine jS ?_
    refine jS ?_
    refine jS ?_
    refine jS ?_
    refine jweakB 5 [iv T.pc,iv (g0 T.regs 0),iv (g0 T.regs 1),iv (g0 T.regs 2),iv (g0 T.regs 3),iv (g0 T.regs 4),iv (g0 T.regs 5),iv (g0 T.regs 6),iv (g0 T.regs 7),.sl (T.frames.map encFrm),iv T.state,iv T.fault,.slz ((T.left.set k (max (g0 T.left k-1) 0)).map iv)] rfl rfl rfl (th_left_rel fun c u h=>slz_of hne h) ?_
    repeat (first|refine jS ?_|refine jD ?_|refine jB ?_)
    refine jo rfl rfl (append_enc (enc:=encThr) (l:=L) { T with left:=T.left.set k (max (g0 T.left k-1) 0) } rfl rfl rfl rfl rfl rfl rfl rfl rfl rfl (fun x=>⟨rfl,rfl⟩) rfl (by omega) rfl rfl) rfl rfl ?_
    repeat (first|refine jS ?_|refine jD ?_|refine jB ?_)
    refine jnext (q+1) hq2 (by omega) rfl rfl rfl ?_ ?_
    ·rw [hidx];rfl
    ·rw [htk];rfl
  ·have h:=of_decide_eq_false h
   rw [List.length_map] at h
   have:q=y.thr.length:=by omega
   subst this
   rw [List.take_length]
   refine jpub 8 rfl rfl rfl rfl ?_
   repeat (first|refine jS ?_|refine jD ?_|refine jB ?_)
   exact jR
end Go.AL
end
section
set_option maxRecDepth 100000
namespace Go.AL
open Go Go.Proofs
attribute [local irreducible] J
theorem act_out {w:Wd} {a:Act} (h:WdR w) (hk:inT w a.who=false):actW w a=(w,false):=by
 unfold actW stepW flushW
 rw [wRight_iff.2 h,hk]
 split<;>rfl
theorem act_step {w:Wd} {k:Nat} (h:WdR w) (hk:k < w.thr.length):actW w ⟨0,k⟩=cond (canW w k) (doW w k,true) (w,false):=by
 show cond (decide ((stepW w k).2=0)) ((stepW w k).1,true) (w,false)=_
 have hi:inT w (k:Int)=true:=inn_iff.2 ⟨by omega,by omega⟩
 unfold stepW
 rw [wRight_iff.2 h,hi,Int.toNat_natCast]
 cases canW w k<;>rfl
theorem act_flush {w:Wd} {k:Nat} (h:WdR w) (hk:k < w.thr.length):actW w ⟨1,k⟩=match bufAt w.tso k with | []=>(w,false)|p::r=>(flushD w k p r,true):=by
 show cond (decide ((flushW w k).2=0)) ((flushW w k).1,true) (w,false)=_
 have hi:inT w (k:Int)=true:=inn_iff.2 ⟨by omega,by omega⟩
 unfold flushW
 rw [wRight_iff.2 h,hi,Int.toNat_natCast]
 cases bufAt w.tso k<;>rfl
theorem act_other {w:Wd} {a:Act} (h0:a.kind≠0) (h1:a.kind≠1):actW w a=(w,false):=by
 unfold actW
 split
 ·rename_i e;exact absurd e h0
 ·rename_i e;exact absurd e h1
 ·rfl
theorem rhas_ok (w:Wd) (k:Int):ACalls Tryz.prog 160 [encWd w,iv k] [] (one (bv (inT w k)) []):=by
 unfold encWd wCells ivs
 refine jC Tryz.func160 Tryz.ntmps160 (fun w0 β0 ext hβ=>?_)
 repeat (first|refine jS ?_|refine jD ?_|refine jB ?_)
 by_cases h:k≥0
 ·rw [decide_eq_true h]
  repeat (first|refine jS ?_|refine jD ?_|refine jB ?_)
  have e:decide (k < (((w.thr.map encThr).length:Nat):Int))=inT w k:=by
   unfold inT inn
   rw [decide_eq_true (show 0≤k from h),Bool.true_and,List.length_map]
   exact decide_eq_decide.2 (by omega)
  rw [e]
  exact jR
 ·rw [decide_eq_false h]
  repeat (first|refine jS ?_|refine jD ?_|refine jB ?_)
  have e:inT w k=false:=by unfold inT inn;rw [decide_eq_false (show ¬0≤k from h)];rfl
  rw [e]
  exact jR
theorem rdone_ok (w:Wd) (a:Act) (h:WdR w):ACalls Tryz.prog 113 [encWd w,encAct a] [] (one (bv (actW w a).2) []):=by
 have h1:=rhas_ok w a.who
 cases hk:inT w a.who with
 | false =>
  rw [act_out h hk]
  rw [hk] at h1
  unfold encWd wCells ivs encAct at *
  refine jC Tryz.func113 Tryz.ntmps113 (fun w0 β0 ext hβ=>?_)
  repeat (first|refine jS ?_|refine jD ?_|refine jB ?_|refine jV h1 ?_)
  exact jR
 | true =>
  rw [hk] at h1
  obtain ⟨kd,who⟩:=a
  obtain ⟨q,e,hq⟩:=inT_nat hk
  simp only at e
  subst e
  have hqb:(q:Int) < w.tso.bufs.length:=by rw [←h.len];omega
  have h2:=rcan_ok w q h hq
  unfold encWd wCells ivs encAct at *
  simp only at *
  by_cases h0:kd=0
  ·subst h0
   rw [act_step h hq]
   cases hc:canW w q
   all_goals (
    rw [hc] at h2
    refine jC Tryz.func113 Tryz.ntmps113 (fun w0 β0 ext hβ=>?_)
    repeat (first|refine jS ?_|refine jD ?_|refine jB ?_|refine jV h1 ?_|refine jV h2 ?_)
   )
   all_goals exact jR
  ·have e0:(kd == 0)=false:=by rw [beq_eq_false_iff_ne];exact h0
   by_cases h1':kd=1
   ·subst h1'
    rw [act_flush h hq]
    have hbl:bufAt w.tso q=at' w.tso.bufs (q:Int):=rfl
    cases hb:bufAt w.tso q with
    | nil =>
     rw [hb] at hbl
     refine jC Tryz.func113 Tryz.ntmps113 (fun w0 β0 ext hβ=>?_)
     repeat (first|refine jS ?_|refine jD ?_|refine jB ?_|refine jV h1 ?_|refine jI (Int.natCast_nonneg q) hqb ?_)
     rw [←hbl]
     repeat (first|refine jS ?_|refine jD ?_|refine jB ?_)
     exact jR
    | cons p r =>
     rw [hb] at hbl
     have hl:decide ((((((p::r:List Wput)).map encPut).length:Nat):Int) > 0)=true:=decide_eq_true (by simp)
     refine jC Tryz.func113 Tryz.ntmps113 (fun w0 β0 ext hβ=>?_)
     repeat (first|refine jS ?_|refine jD ?_|refine jB ?_|refine jV h1 ?_|refine jI (Int.natCast_nonneg q) hqb ?_)
     rw [←hbl]
     repeat (first|refine jS ?_|refine jD ?_|refine jB ?_)
     rw [hl]
     repeat (first|refine jS ?_|refine jD ?_|refine jB ?_)
     exact jR
   ·have e1:(kd == 1)=false:=by rw [beq_eq_false_iff_ne];exact h1'
    rw [act_other (a:=⟨kd,q⟩) h0 h1']
    refine jC Tryz.func113 Tryz.ntmps113 (fun w0 β0 ext hβ=>?_)
    repeat (first|refine jS ?_|refine jD ?_|refine jB ?_|refine jV h1 ?_)
    rw [e0]
    repeat (first|refine jS ?_|refine jD ?_|refine jB ?_)
    rw [e1]
    repeat (first|refine jS ?_|refine jD ?_|refine jB ?_)
    exact jR
theorem act_same {w:Wd} {a:Act} (h:WdR w) (hd:(actW w a).2=false):(actW w a).1=w:=by
 cases hk:inT w a.who with
 | false=>rw [act_out h hk]
 | true =>
  obtain ⟨kd,who⟩:=a
  obtain ⟨q,e,hq⟩:=inT_nat hk
  simp only at e
  subst e
  by_cases h0:kd=0
  ·subst h0
   rw [act_step h hq] at *
   cases hc:canW w q with
   | false=>rfl
   | true=>rw [hc] at hd;cases hd
  ·by_cases h1':kd=1
   ·subst h1'
    rw [act_flush h hq] at *
    cases hb:bufAt w.tso q with
    | nil=>rfl
    | cons p r=>rw [hb] at hd;cases hd
   ·rw [act_other (a:=⟨kd,q⟩) h0 h1']
theorem rdo_ok (w:Wd) (a:Act) (h:WdR w) (hev:w.evs.length≤900000):ACalls Tryz.prog 114 [encWd w,encAct a] [] (one (encWd (actW w a).1) []):=by
 have h1:=rdone_ok w a h
 cases hd:(actW w a).2 with
 | false =>
  have e:=act_same h hd
  rw [e]
  rw [hd] at h1
  unfold encWd wCells ivs encAct at *
  refine jC Tryz.func114 Tryz.ntmps114 (fun w0 β0 ext hβ=>?_)
  repeat (first|refine jS ?_|refine jD ?_|refine jB ?_|refine jV h1 ?_)
  exact jR
 | true =>
  rw [hd] at h1
  cases hk:inT w a.who with
  | false=>rw [act_out h hk] at hd;cases hd
  | true =>
   obtain ⟨kd,who⟩:=a
   obtain ⟨q,e,hq⟩:=inT_nat hk
   simp only at e
   subst e
   by_cases h0:kd=0
   ·subst h0
    rw [act_step h hq] at *
    cases hc:canW w q with
    | false=>rw [hc] at hd;cases hd
    | true =>
     have h2:=rstep_ok w q h hq hc hev
     simp only [cond_true]
     generalize doW w q=w1 at *
     unfold encWd wCells ivs encAct at *
     refine jC Tryz.func114 Tryz.ntmps114 (fun w0 β0 ext hβ=>?_)
     repeat (first|refine jS ?_|refine jD ?_|refine jB ?_|refine jV h1 ?_|refine jV h2 ?_)
     exact jR
   ·by_cases h1':kd=1
    ·subst h1'
     rw [act_flush h hq] at *
     cases hb:bufAt w.tso q with
     | nil=>rw [hb] at hd;cases hd
     | cons p r =>
      have h2:=rflush_ok w q h hq hb
      simp only
      generalize flushD w q p r=w1 at *
      unfold encWd wCells ivs encAct at *
      refine jC Tryz.func114 Tryz.ntmps114 (fun w0 β0 ext hβ=>?_)
      repeat (first|refine jS ?_|refine jD ?_|refine jB ?_|refine jV h1 ?_|refine jV h2 ?_)
      exact jR
    ·rw [act_other (a:=⟨kd,q⟩) h0 h1'] at hd;cases hd
theorem rrun_ok (w:Wd) (l:List Act) (h:WdR w) (he:w.evs.length≤800000) (hl:l.length≤100000):ACalls Tryz.prog 79 [encWd w,.sl (l.map encAct)] [] (one (.tup [encWd (runW w l).1,iv ((runW w l).2:Int)]) []):=by
 unfold encWd wCells ivs at *
 refine jC Tryz.func79 Tryz.ntmps79 (fun w0 β0 ext hβ=>?_)
 repeat (first|refine jS ?_|refine jD ?_|refine jB ?_)
 refine jfin 2 [2,4,5,6,9,10,11] true rfl rfl rfl (by show β0.length≤2;rw [hβ];exact Nat.zero_le _) ?_
 refine jloop 2 (fun q:Nat=>q≤l.length) [2,4,5,6,9,10,11] (fun q=>[.ptr 0 0,.ptr 1 0,iv 0,iv ((runW w (l.take q)).2:Int),.sl (l.map encAct),.v (.int .i64 ((l.map encAct).length:Int)),.v (.int .i64 (q:Int))])
  (fun q=>[.box 33 (wCells (runW w (l.take q)).1),.box 33 w0C]) (fun q=>l.length-q) 0 (by show β0.length≤2;rw [hβ];exact Nat.zero_le _) (Nat.zero_le _) rfl rfl (fun q hq=>?_)
 obtain ⟨b1,b2,b3⟩:=runW_right h (l.take q) 0
 rw [show (l.take q).foldl (fun s a=>((actW s.1 a).1,cond (actW s.1 a).2 (s.2+1) s.2)) (w,0)=runW w (l.take q) from rfl] at b1 b2 b3
 rw [List.length_take] at b2 b3
 unfold wCells ivs w0C
 repeat (first|refine jS ?_|refine jD ?_|refine jB ?_)
 refine jc rfl rfl rfl (fun h=>?_) (fun h=>?_)
 ·have h:=of_decide_eq_true h
  rw [List.length_map] at h
  have hq2:q < l.length:=by omega
  have hs:=run_succ w l q hq2
  have hidx:IntKind.i64.wrap ((q:Int)+1)=((q+1:Nat):Int):=idx_next hq2 (by omega)
  have hnx:IntKind.i64.wrap (((runW w (l.take q)).2:Int)+1)=(((runW w (l.take q)).2+1:Nat):Int):=by rw [wrap_id]<;>omega
  have h2:=rdone_ok (runW w (l.take q)).1 (at' l (q:Int)) b1
  have h3:=rdo_ok (runW w (l.take q)).1 (at' l (q:Int)) b1 (by omega)
  generalize runW w (l.take q)=r at *
  generalize hr:actW r.1 (at' l (q:Int))=x at *
  obtain ⟨x1,x2⟩:=x
  unfold encAct at h2 h3
  unfold encWd wCells ivs at h2 h3
  simp only at *
  repeat (first|refine jS ?_|refine jD ?_|refine jB ?_|refine jI (Int.natCast_nonneg q) h ?_|refine jV h2 ?_)
  cases x2 with
  | false =>
   have e:x1=r.1:=by
    have:=act_same (w:=r.1) (a:=at' l (q:Int)) b1 (by rw [hr])
    rw [hr] at this
    exact this
   repeat (first|refine jS ?_|refine jD ?_|refine jB ?_)
   refine jnext (q+1) hq2 (by omega) rfl rfl rfl ?_ ?_
   ·rw [hidx,hs];rfl
   ·rw [hs,e];rfl
  | true =>
   repeat (first|refine jS ?_|refine jD ?_|refine jB ?_)
   rw [hnx]
   repeat (first|refine jS ?_|refine jD ?_|refine jB ?_|refine jV h3 ?_)
   refine jnext (q+1) hq2 (by omega) rfl rfl rfl ?_ ?_
   ·rw [hidx,hs];rfl
   ·rw [hs];rfl
 ·have h:=of_decide_eq_false h
  rw [List.length_map] at h
  have:q=l.length:=by omega
  subst this
  rw [List.take_length]
  repeat (first|refine jS ?_|refine jD ?_|refine jB ?_)
  exact jR
end Go.AL
end
