/-
  Part 6 of the proof texts: the program logic over the model, then the contracts of the functions that the laws reach. No conditions.
-/
import Derived.Test.YteefnlbapebamaaGreatDoorD5
import Derived.Laws.RangeString
import Derived.Laws.RangeAny
set_option linter.unusedVariables false
set_option linter.unusedSimpArgs false
set_option maxHeartbeats 2000000
section
set_option maxRecDepth 100000
namespace Go.AL
open Go Go.Proofs
attribute [local irreducible] J
structure Ins where
 op:Int
 a:Int
 b:Int
 c:Int
instance:Inhabited Ins:=⟨⟨0,0,0,0⟩⟩
def encIns (i:Ins):AVal:=.agg [iv i.op,iv i.a,iv i.b,iv i.c]
def rd (m:Mp) (c:UInt8) (w:Bs):Int × Int:=cond (decide (c=114)) (rdR w) (cond (decide (c=110)) (rdN w) (rdT m w))
def rdAll (m:Mp):Bs→List Bs→List Int × Int
 | c::cs,w::ws=>cond (decide ((rd m c w).2=0)) (((rd m c w).1::(rdAll m cs ws).1),(rdAll m cs ws).2) ([],(rd m c w).2)
 | _,_=>([],0)
def instrK (m:Mp) (op:Int) (kd:Bs) (ws:List Bs):Ins × Int :=
 cond (decide (ws.length=kd.length)) (cond (decide ((rdAll m kd ws).2=0)) (⟨op,(rdAll m kd ws).1.getD 0 0,(rdAll m kd ws).1.getD 1 0,(rdAll m kd ws).1.getD 2 0⟩,0) (default,(rdAll m kd ws).2)) (default,12)
def instrP (m:Mp) (s:Bs):Ins × Int :=
 match words s with
 | []=>(default,10)
 | w::ws=>cond (decide (findOp w < 0)) (default,10) (instrK m (findOp w) (at' opsT (findOp w)).2 ws)
def rdF (j:Nat):List (Value × AVal):=[(.int .u8 114,.fn (.func 168) [] []),(.int .u8 110,.fn (.func 169) [] []),(.int .u8 116,.fn (.func 171) [] [.ptr j 0])]
def iH (g:Gl) (m:Mp):List AObj:=[g.a,g.b,g.c,g.d,.vmap (encM m),.box 186 [.mp 4],.map (rdF 5)]
theorem rdF_keys (j:Nat):MKeys (.int .u8) (rdF j):=by
 simp [MKeys,rdF,MapKept.IsKey]
theorem words_ne (s:Bs):words s≠[]:=fun h=>by
 have:=words_len s
 rw [h] at this
 simp at this
theorem findOp_cases (w:Bs):findOp w = -1∨∃ k:Nat,k < 27∧findOp w=(k:Int):=by
 unfold findOp
 split
 ·rename_i i hi
  have:=(List.findIdx?_eq_some_iff_getElem.1 hi).1
  exact .inr ⟨i,this,rfl⟩
 ·exact .inl rfl
theorem kinds_ok:∀ k:Nat,k < 27→(at' opsT (k:Int)).2.length≤3∧∀ c∈(at' opsT (k:Int)).2,c=114∨c=110∨c=116:=by decide
theorem ops_kind:∀ (i:Nat),i < 27→takeA ty9 opsC (0+i*ty213.size+1)=some (sv (at' opsT (i:Int)).2)
 | 0,_=>rfl
 | 1,_=>rfl
 | 2,_=>rfl
 | 3,_=>rfl
 | 4,_=>rfl
 | 5,_=>rfl
 | 6,_=>rfl
 | 7,_=>rfl
 | 8,_=>rfl
 | 9,_=>rfl
 | 10,_=>rfl
 | 11,_=>rfl
 | 12,_=>rfl
 | 13,_=>rfl
 | 14,_=>rfl
 | 15,_=>rfl
 | 16,_=>rfl
 | 17,_=>rfl
 | 18,_=>rfl
 | 19,_=>rfl
 | 20,_=>rfl
 | 21,_=>rfl
 | 22,_=>rfl
 | 23,_=>rfl
 | 24,_=>rfl
 | 25,_=>rfl
 | 26,_=>rfl
 | n+27,h=>absurd h (by omega)
theorem splitK_len (sep:Bs) (save:Nat):∀ (k:Nat) (s x:Bs),x∈Lib.splitK sep save k s→x.length≤s.length
 | 0,s,x,h=>by simp [Lib.splitK] at h;subst h;exact Nat.le_refl _
 | k+1,s,x,h=>by
  unfold Lib.splitK at h
  split at h
  ·simp at h;subst h;exact Nat.le_refl _
  ·rcases List.mem_cons.1 h with rfl|h
   ·rw [List.length_take];omega
   ·have:=splitK_len sep save k _ x h
    rw [List.length_drop] at this;omega
theorem rdAll_ok (m:Mp):∀ (kd:Bs) (ws:List Bs),ws.length=kd.length→(∀ q,q < kd.length→(rd m (kd.getD q 0) (ws.getD q [])).2=0) →
  (rdAll m kd ws).2=0∧∀ q,q < kd.length→(rdAll m kd ws).1.getD q 0=(rd m (kd.getD q 0) (ws.getD q [])).1
 | [],ws,_,_=>⟨by simp [rdAll],fun q h=>absurd h (by simp)⟩
 | c::kd,[],h,_=>by simp at h
 | c::kd,w::ws,h,ha=>by
  have h0:=ha 0 (by simp)
  simp at h0
  obtain ⟨i1,i2⟩:=rdAll_ok m kd ws (by simpa using h) fun q hq=>by simpa using ha (q+1) (by simpa using hq)
  have e:rdAll m (c::kd) (w::ws)=((rd m c w).1::(rdAll m kd ws).1,(rdAll m kd ws).2):=by simp [rdAll,h0]
  rw [e]
  refine ⟨i1,fun q hq=>?_⟩
  cases q with
  | zero=>simp
  | succ q=>simpa using i2 q (by simpa using hq)
theorem rdAll_len (m:Mp):∀ (kd:Bs) (ws:List Bs),(rdAll m kd ws).1.length≤kd.length
 | [],ws=>by simp [rdAll]
 | c::kd,[]=>by simp [rdAll]
 | c::kd,w::ws=>by
  have:=rdAll_len m kd ws
  simp only [rdAll]
  cases decide ((rd m c w).2=0)<;>simp<;>omega
theorem rdAll_bad (m:Mp):∀ (kd:Bs) (ws:List Bs) (i:Nat),ws.length=kd.length→i < kd.length→(∀ q,q < i→(rd m (kd.getD q 0) (ws.getD q [])).2=0)→(rd m (kd.getD i 0) (ws.getD i [])).2≠0 →
  (rdAll m kd ws).2=(rd m (kd.getD i 0) (ws.getD i [])).2
 | [],ws,i,_,hi,_,_=>by simp at hi
 | c::kd,[],i,h,_,_,_=>by simp at h
 | c::kd,w::ws,0,h,_,_,hb=>by
  simp at hb
  simp [rdAll,hb]
 | c::kd,w::ws,i+1,h,hi,ha,hb=>by
  have h0:=ha 0 (by omega)
  simp at h0
  have e:rdAll m (c::kd) (w::ws)=((rd m c w).1::(rdAll m kd ws).1,(rdAll m kd ws).2):=by simp [rdAll,h0]
  rw [e]
  simpa using rdAll_bad m kd ws i (by simpa using h) (by simpa using hi) (fun q hq=>by simpa using ha (q+1) (by omega)) (by simpa using hb)
theorem instr_ok (g:Gl) (m:Mp) (s:Bs) (hs:s.length≤1000000):ACalls Tryz.prog 122 [sv s,.mp 6] (iH g m) (one (.tup [encIns (instrP m s).1,iv (instrP m s).2]) (iH g m)):=by
 have hop:=operations_ok
 have hsp:=split_ok g s hs
 have hwl:=words_len s
 have hwb:(words s).length≤1000001:=by
  rw [hwl]
  have:=Lib.countB_le ⟨#[32]⟩ (by simp [ByteArray.size]) _ ⟨s.toArray⟩ (Nat.le_refl _)
  have hsz:ByteArray.size ⟨s.toArray⟩≤1000000:=by simpa [ByteArray.size] using hs
  omega
 unfold instrP
 have hne:=words_ne s
 generalize hws:words s=ws at *
 cases ws with
 | nil=>exact absurd rfl hne
 | cons w r =>
  simp only
  have hix:=indexOp_ok w r
  have hkk:=findOp_cases w
  generalize findOp w=op at *
  refine jC Tryz.func122 Tryz.ntmps122 (fun w0 β0 ext hβ=>?_)
  repeat (first|refine jS ?_|refine jD ?_|refine jB ?_|refine jV hop ?_)
  refine jBb [0,1,2,3] hsp ?_
  repeat (first|refine jS ?_|refine jD ?_|refine jB ?_|refine jo rfl rfl (slice_box 0 27 rfl rfl rfl rfl rfl rfl (by omega) (by omega) (by omega)) rfl rfl ?_)
  refine jBb [8,9] hix ?_
  refine jheap (iH g m++[.box 176 [iv 0,iv 0,iv 0,iv 0],.box 214 opsC,.box 96 [.slf ((w::r).map sv)]]) rfl ?_
  repeat (first|refine jS ?_|refine jD ?_|refine jB ?_)
  rcases hkk with rfl|⟨k,hk,rfl⟩
  ·repeat (first|refine jS ?_|refine jD ?_|refine jB ?_)
   exact jR
  ·have hlt:decide ((k:Int) < 0)=false:=decide_eq_false (by omega)
   have hkd:=ops_kind k hk
   obtain ⟨hk3,hkc⟩:=kinds_ok k hk
   rw [hlt]
   simp only [cond_false]
   generalize (at' opsT (k:Int)).2=kd at *
   repeat (first|refine jS ?_|refine jD ?_|refine jB ?_|refine jo rfl rfl (index_arr rfl rfl rfl rfl rfl (by omega) (by omega)) rfl rfl ?_|refine jo rfl rfl (load_dsem rfl rfl rfl hkd) rfl rfl ?_)
   have hcnd:((((w::r).map sv).length:Int) != IntKind.i64.wrap (1+(ByteArray.size ⟨kd.toArray⟩:Int))) = !decide (r.length=kd.length):=by
    have e1:ByteArray.size ⟨kd.toArray⟩=kd.length:=rfl
    rw [e1,wrap_id (by omega) (by omega),Bool.eq_iff_iff]
    simp
    omega
   rw [hcnd]
   unfold instrK
   cases hb:decide (r.length=kd.length) with
   | false =>
    simp only [Bool.not_false,cond_false]
    repeat (first|refine jS ?_|refine jD ?_|refine jB ?_)
    exact jR
   | true =>
    have hlen:=of_decide_eq_true hb
    simp only [Bool.not_true,cond_true]
    repeat (first|refine jS ?_|refine jD ?_|refine jB ?_)
    let ok:Nat→Prop:=fun i=>i≤kd.length∧∀ q,q < i→(rd m (kd.getD q 0) (r.getD q [])).2=0
    let vv:Nat→Nat→AVal:=fun q i=>iv (cond (decide (q < i)) (rd m (kd.getD q 0) (r.getD q [])).1 0)
    refine jloopI ok [1,9,7,10,36,35,4,8] (fun i=>[.mp 6,sv kd,.ptr 9 0,.ptr 10 0,.v (.int .i64 (i:Int)),.v (.int .i64 (kd.length:Int)),.ptr 7 0,.v (.int .i64 (k:Int))])
     (fun i=>iH g m++[.box 176 [iv 0,iv 0,iv 0,iv 0],.box 214 opsC,.box 96 [.slf ((w::r).map sv)],.box 116 [vv 0 i,vv 1 i,vv 2 i]]) (fun i=>kd.length-i) 0 ⟨Nat.zero_le _,fun q hq=>absurd hq (by omega)⟩ rfl rfl (fun i hi=>?_)
    obtain ⟨hi,hok⟩:=hi
    repeat (first|refine jS ?_|refine jD ?_|refine jB ?_)
    refine jc rfl rfl rfl (fun h=>?_) (fun h=>?_)
    ·have h:=of_decide_eq_true h
     have hik:i < kd.length:=by omega
     have hnx:=idx_next hik (by omega)
     have hwd:at' (w::r) (IntKind.i64.wrap ((i:Int)+1))=r.getD i []:=by
      rw [hnx];simp [at'];rfl
     obtain ⟨c,hc⟩:∃ c,kd[i]? = some c:=⟨_,List.getElem?_eq_getElem hik⟩
     have hcb:(⟨kd.toArray⟩:ByteArray)[((i:Int)).toNat]? = some c:=by
      have hsz:((i:Int)).toNat < (⟨kd.toArray⟩:ByteArray).size:=hik
      rw [getElem?_pos (⟨kd.toArray⟩:ByteArray) _ hsz]
      rw [List.getElem?_eq_getElem hik] at hc
      injection hc with hc
      rw [←hc];rfl
     have hcd:kd.getD i 0=c:=by simp [List.getD,hc]
     have hcm:c∈kd:=List.mem_of_getElem? hc
     have hl1:(0:Int)≤IntKind.i64.wrap ((i:Int)+1):=by rw [hnx];omega
     have hl2:IntKind.i64.wrap ((i:Int)+1) < ((w::r).length:Int):=by rw [hnx,List.length_cons];omega
     have hwl2:(at' (w::r) (IntKind.i64.wrap ((i:Int)+1))).length≤1000000:=by
      rw [hwd]
      have hir:i < r.length:=by omega
      have hm:r.getD i []∈words s:=by rw [hws];refine List.mem_cons_of_mem _ ?_;simp [List.getD,hir]
      exact Nat.le_trans (splitK_len [32] 0 _ s _ hm) hs
     have hR:=rdR_ok (at' (w::r) (IntKind.i64.wrap ((i:Int)+1)))
     have hN:=rdN_ok g (at' (w::r) (IntKind.i64.wrap ((i:Int)+1))) hwl2
     have hT:=rdT_ok m (at' (w::r) (IntKind.i64.wrap ((i:Int)+1)))
     have hks:=rdF_keys 5
     rcases hkc c hcm with rfl|rfl|rfl
     ·have hf:MFind (rdF 5) (.int .u8 114) (some (.fn (.func 168) [] [])):=.inl ⟨rfl,rfl⟩
      repeat (first|refine jS ?_|refine jB ?_)
      refine jdrawP [(0,.p),(1,.p),(2,.p),(3,.p),(4,.s),(5,.r),(6,.p),(7,.p),(8,.p),(9,.r),(10,.s),(11,.p),(12,.p),(13,.p),(14,.p),(15,.p)] (by decide) (by kernel_rfl) ?_
      repeat (first|refine jS ?_|refine jD ?_|refine jB ?_|refine jo rfl rfl (index_str rfl rfl rfl rfl (Int.natCast_nonneg i) hcb) rfl rfl ?_|refine jo rfl rfl (map_get rfl rfl rfl rfl rfl rfl rfl rfl rfl rfl hks hf rfl) rfl rfl ?_|refine jI hl1 hl2 ?_|refine jV hR ?_)
      have hrd:rd m (kd.getD i 0) (r.getD i [])=rdR (at' (w::r) (IntKind.i64.wrap ((i:Int)+1))):=by rw [hwd,hcd];rfl
      generalize rdR (at' (w::r) (IntKind.i64.wrap ((i:Int)+1)))=p at *
      obtain ⟨p1,p2⟩:=p
      by_cases hp:p2=0
      ·subst hp
       have hok':ok (i+1):=⟨by omega,fun q hq=>by
        by_cases hqi:q=i
        ·subst hqi;rw [hrd]
        ·exact hok q (by omega)⟩
       have hi3:i=0∨i=1∨i=2:=by omega
       rcases hi3 with rfl|rfl|rfl
       all_goals (
        repeat (first|refine jS ?_|refine jD ?_|refine jB ?_|refine jo rfl rfl (index_arr rfl rfl rfl rfl rfl (by omega) (by omega)) rfl rfl ?_)
       )
       all_goals refine jnextI (_+1) hok' ?_ ?_ ?_
       all_goals first|omega|rfl|(show _=_;simp only [vv,hrd];rfl)
      ·have hbad:=rdAll_bad m kd r i hlen hik hok (by rw [hrd];exact hp)
       rw [hrd] at hbad
       have hp':(p2 != 0)=true:=by simpa using hp
       rw [hbad,decide_eq_false hp]
       simp only [cond_false]
       simp only [hp']
       repeat (first|refine jS ?_|refine jD ?_|refine jB ?_)
       exact jR
     ·have hf:MFind (rdF 5) (.int .u8 110) (some (.fn (.func 169) [] [])):=.inr ⟨by simp,.inl ⟨rfl,rfl⟩⟩
      repeat (first|refine jS ?_|refine jB ?_)
      refine jdrawP [(0,.p),(1,.p),(2,.p),(3,.p),(4,.s),(5,.r),(6,.p),(7,.p),(8,.p),(9,.r),(10,.s),(11,.p),(12,.p),(13,.p),(14,.p),(15,.p)] (by decide) (by kernel_rfl) ?_
      repeat (first|refine jS ?_|refine jD ?_|refine jB ?_|refine jo rfl rfl (index_str rfl rfl rfl rfl (Int.natCast_nonneg i) hcb) rfl rfl ?_|refine jo rfl rfl (map_get rfl rfl rfl rfl rfl rfl rfl rfl rfl rfl hks hf rfl) rfl rfl ?_|refine jI hl1 hl2 ?_)
      refine jbs [0,1,2,3] hN rfl rfl rfl ⟨rfl,rfl,rfl,rfl,rfl,rfl⟩ rfl rfl rfl rfl ?_
      repeat (first|refine jS ?_|refine jD ?_|refine jB ?_)
      have hrd:rd m (kd.getD i 0) (r.getD i [])=rdN (at' (w::r) (IntKind.i64.wrap ((i:Int)+1))):=by rw [hwd,hcd];rfl
      generalize rdN (at' (w::r) (IntKind.i64.wrap ((i:Int)+1)))=p at *
      obtain ⟨p1,p2⟩:=p
      by_cases hp:p2=0
      ·subst hp
       have hok':ok (i+1):=⟨by omega,fun q hq=>by
        by_cases hqi:q=i
        ·subst hqi;rw [hrd]
        ·exact hok q (by omega)⟩
       have hi3:i=0∨i=1∨i=2:=by omega
       rcases hi3 with rfl|rfl|rfl
       all_goals (
        repeat (first|refine jS ?_|refine jD ?_|refine jB ?_|refine jo rfl rfl (index_arr rfl rfl rfl rfl rfl (by omega) (by omega)) rfl rfl ?_)
       )
       all_goals refine jnextI (_+1) hok' ?_ ?_ ?_
       all_goals first|omega|rfl|(show _=_;simp only [vv,hrd];rfl)
      ·have hbad:=rdAll_bad m kd r i hlen hik hok (by rw [hrd];exact hp)
       rw [hrd] at hbad
       have hp':(p2 != 0)=true:=by simpa using hp
       rw [hbad,decide_eq_false hp]
       simp only [cond_false]
       simp only [hp']
       repeat (first|refine jS ?_|refine jD ?_|refine jB ?_)
       exact jR
     ·have hf:MFind (rdF 5) (.int .u8 116) (some (.fn (.func 171) [] [.ptr 5 0])):=.inr ⟨by simp,.inr ⟨by simp,.inl ⟨rfl,rfl⟩⟩⟩
      repeat (first|refine jS ?_|refine jB ?_)
      refine jdrawP [(0,.p),(1,.p),(2,.p),(3,.p),(4,.s),(5,.r),(6,.p),(7,.p),(8,.p),(9,.r),(10,.s),(11,.p),(12,.p),(13,.p),(14,.p),(15,.p)] (by decide) (by kernel_rfl) ?_
      repeat (first|refine jS ?_|refine jD ?_|refine jB ?_|refine jo rfl rfl (index_str rfl rfl rfl rfl (Int.natCast_nonneg i) hcb) rfl rfl ?_|refine jo rfl rfl (map_get rfl rfl rfl rfl rfl rfl rfl rfl rfl rfl hks hf rfl) rfl rfl ?_|refine jI hl1 hl2 ?_)
      refine jbs [4,5] hT rfl rfl rfl ⟨rfl,rfl,rfl,rfl,rfl,rfl⟩ rfl rfl rfl rfl ?_
      repeat (first|refine jS ?_|refine jD ?_|refine jB ?_)
      have hrd:rd m (kd.getD i 0) (r.getD i [])=rdT m (at' (w::r) (IntKind.i64.wrap ((i:Int)+1))):=by rw [hwd,hcd];rfl
      generalize rdT m (at' (w::r) (IntKind.i64.wrap ((i:Int)+1)))=p at *
      obtain ⟨p1,p2⟩:=p
      by_cases hp:p2=0
      ·subst hp
       have hok':ok (i+1):=⟨by omega,fun q hq=>by
        by_cases hqi:q=i
        ·subst hqi;rw [hrd]
        ·exact hok q (by omega)⟩
       have hi3:i=0∨i=1∨i=2:=by omega
       rcases hi3 with rfl|rfl|rfl
       all_goals (
        repeat (first|refine jS ?_|refine jD ?_|refine jB ?_|refine jo rfl rfl (index_arr rfl rfl rfl rfl rfl (by omega) (by omega)) rfl rfl ?_)
       )
       all_goals refine jnextI (_+1) hok' ?_ ?_ ?_
       all_goals first|omega|rfl|(show _=_;simp only [vv,hrd];rfl)
      ·have hbad:=rdAll_bad m kd r i hlen hik hok (by rw [hrd];exact hp)
       rw [hrd] at hbad
       have hp':(p2 != 0)=true:=by simpa using hp
       rw [hbad,decide_eq_false hp]
       simp only [cond_false]
       simp only [hp']
       repeat (first|refine jS ?_|refine jD ?_|refine jB ?_)
       exact jR
    ·have h:=of_decide_eq_false h
     have hi':i=kd.length:=by omega
     subst hi'
     obtain ⟨k1,k2⟩:=rdAll_ok m kd r hlen hok
     have hq:∀ q,(rdAll m kd r).1.getD q 0=cond (decide (q < kd.length)) (rd m (kd.getD q 0) (r.getD q [])).1 0:=by
      intro q
      by_cases hql:q < kd.length
      ·rw [k2 q hql,decide_eq_true hql];rfl
      ·rw [decide_eq_false hql]
       have:=rdAll_len m kd r
       simp [List.getD,List.getElem?_eq_none (show (rdAll m kd r).1.length≤q by omega)]
     rw [k1,hq 0,hq 1,hq 2]
     repeat (first|refine jS ?_|refine jD ?_|refine jB ?_|refine jo rfl rfl (index_arr rfl rfl rfl rfl rfl (by omega) (by omega)) rfl rfl ?_)
     exact jR
end Go.AL
end
section
set_option maxRecDepth 100000
namespace Go.AL
open Go Go.Proofs
attribute [local irreducible] J
def cnt (m:Mp) (s:Bs):Int:=(m.lookup s).getD 0
def bump:Mp→Bs→Mp
 | [],s=>[(s,1)]
 | (k,n)::m,s=>cond (decide (k=s)) ((s,n+1)::m) ((k,n)::bump m s)
theorem bump_put:∀ (m:Mp) (s:Bs),MPut (vals (encM m)) (S s) (iv (cnt m s+1)) (vals (encM (bump m s)))
 | [],s=>rfl
 | (k,n)::m,s=>by
  by_cases h:k=s
  ·subst h
   have e1:bump ((k,n)::m) k=(k,n+1)::m:=by simp [bump]
   have e2:cnt ((k,n)::m) k=n:=by simp [cnt,List.lookup]
   rw [e1,e2]
   exact .inl ⟨rfl,rfl⟩
  ·have e1:bump ((k,n)::m) s=(k,n)::bump m s:=by simp [bump,h]
   have e2:cnt ((k,n)::m) s=cnt m s:=by
    have:(s == k)=false:=by simp;exact fun e=>h e.symm
    simp [cnt,List.lookup,this]
   rw [e1,e2]
   exact .inr ⟨fun e=>h (S_inj e),_,rfl,bump_put m s⟩
theorem bump_cnt:∀ (m:Mp) (s t:Bs),cnt (bump m s) t=cond (decide (s=t)) (cnt m s+1) (cnt m t)
 | [],s,t=>by
  by_cases h:s=t
  ·subst h;simp [bump,cnt,List.lookup]
  ·have:(t == s)=false:=by simp;exact fun e=>h e.symm
   simp [bump,cnt,List.lookup,this,h]
 | (k,n)::m,s,t=>by
  have ih:=bump_cnt m s t
  by_cases h:k=s
  ·subst h
   by_cases h2:k=t
   ·subst h2;simp [bump,cnt,List.lookup]
   ·have:(t == k)=false:=by simp;exact fun e=>h2 e.symm
    simp [bump,cnt,List.lookup,this,h2]
  ·have hs:(s == k)=false:=by simp;exact fun e=>h e.symm
   have e1:bump ((k,n)::m) s=(k,n)::bump m s:=by simp [bump,h]
   rw [e1]
   by_cases h2:k=t
   ·subst h2
    have h3:¬s=k:=fun e=>h e.symm
    simp [cnt,List.lookup,h3]
   ·have ht:(t == k)=false:=by simp;exact fun e=>h2 e.symm
    have e2:∀ mm:Mp,cnt ((k,n)::mm) t=cnt mm t:=fun mm=>by simp [cnt,List.lookup,ht]
    have e3:cnt ((k,n)::m) s=cnt m s:=by simp [cnt,List.lookup,hs]
    rw [e2,e2,e3];exact ih
theorem bump_lookup:∀ (m:Mp) (s:Bs),(bump m s).lookup s=some (cnt m s+1)
 | [],s=>by simp [bump,cnt,List.lookup]
 | (k,n)::m,s=>by
  by_cases h:k=s
  ·subst h;simp [bump,cnt,List.lookup]
  ·have hs:(s == k)=false:=by simp;exact fun e=>h e.symm
   have ih:=bump_lookup m s
   simp [bump,cnt,List.lookup,h,hs]
   simpa [cnt] using ih
theorem cnt_val (m:Mp) (s:Bs):(cond false (.tup [((m.lookup s).map iv).getD (zeroA ty3),bv ((m.lookup s).map iv).isSome]) (((m.lookup s).map iv).getD (zeroA ty3)))=iv (cnt m s):=by
 unfold cnt
 cases m.lookup s<;>rfl
def lineE (m met:Mp) (n:Nat) (c:Bs):Int :=
 cond (!ended c||(isLab (bare c) && !nameP (labName (bare c)))) 12
  (cond (isLab (bare c)&&decide (cnt met (bare c)+1 > 1)) 11
   (cond (isLab (bare c)) 0 (cond (decide ((instrP m (bare c)).2=0)) (cond (decide (n=1000)) 2 0) (instrP m (bare c)).2)))
def lineC (m:Mp) (cd:List Ins) (c:Bs):List Ins:=cond (isLab (bare c)) cd (cd++[(instrP m (bare c)).1])
def pSt (m:Mp) (cs:List Bs) (k:Nat):Mp × List Ins:=(cs.take k).foldl (fun st c=>(bump st.1 (bare c),lineC m st.2 c)) ([],[])
def pE (m:Mp) (cs:List Bs) (k:Nat):Int:=match cs[k]? with|some c=>lineE m (pSt m cs k).1 (pSt m cs k).2.length c|none=>0
theorem pSt_succ {m:Mp} {cs:List Bs} {k:Nat} (h:k < cs.length):pSt m cs (k+1)=(bump (pSt m cs k).1 (bare cs[k]),lineC m (pSt m cs k).2 cs[k]):=by
 unfold pSt
 rw [List.take_succ_eq_append_getElem h,List.foldl_append];rfl
def bad1 (e:Nat→Int):Nat→Option Nat
 | 0=>none
 | n+1=>match bad1 e n with|some k=>some k|none=>cond (decide (e n=0)) none (some n)
def parseP (s : Bs) : List Ins × Int × Int :=
  cond (decide (s.length > 40000)) ([], 0, 2)
    (match bad1 (pE (labels s) (chunks s)) (chunks s).length with
     | some k => ([], (k : Int) + 1, pE (labels s) (chunks s) k)
     | none => ((pSt (labels s) (chunks s) (chunks s).length).2, 0, 0))
theorem bad1_none {e:Nat→Int}:∀ {n:Nat},(∀ q,q < n→e q=0)→bad1 e n=none
 | 0,_=>rfl
 | n+1,h=>by simp [bad1,bad1_none (n:=n) fun q hq=>h q (by omega),h n (by omega)]
theorem bad1_some {e:Nat→Int} {k:Nat} (h:∀ q,q < k→e q=0) (hk:e k≠0):∀ {n:Nat},k < n→bad1 e n=some k
 | 0,hn=>by omega
 | n+1,hn=>by
  by_cases hkn:k=n
  ·subst hkn
   simp [bad1,bad1_none h,hk]
  ·simp [bad1,bad1_some h hk (n:=n) (by omega)]
theorem pSt_le (m:Mp) (cs:List Bs):∀ k,k≤cs.length→(∀ t,0≤cnt (pSt m cs k).1 t∧cnt (pSt m cs k).1 t≤k)∧(pSt m cs k).2.length≤k
 | 0,_=>⟨fun t=>⟨Int.le_refl _,Int.le_refl _⟩,Nat.le_refl _⟩
 | k+1,hk=>by
  obtain ⟨i1,i2⟩:=pSt_le m cs k (by omega)
  rw [pSt_succ (show k < cs.length by omega)]
  refine ⟨fun t=>?_,?_⟩
  ·rw [bump_cnt]
   have a:=i1 (bare cs[k]);have b:=i1 t
   cases decide (bare cs[k]=t)<;>simp<;>omega
  ·unfold lineC
   cases isLab (bare cs[k])<;>simp<;>omega
theorem fin_arr {H Ho:List AObj} {n j g es:Nat} {t:TypeId} {xs rest rest':List AVal} (hn:kap n [] j=none) (hj:H[j]? = some (.arr g t es xs)) (hr:finL (kap n []) H true rest=some rest') (ht:finOs (kap n []) H true (H.take n)=some Ho) :
  finish n [] true H (.tup (.arr j g::rest))=some (.tup (.sl xs::rest'),Ho):=by
 simp [finish,finV,finL,hn,hj,hr,picks,ht]
def ord23:List (List Nat):=[[0,1,2,3,4],[0,2,1,3,4],[0,2,3,1,4],[1,0,2,3,4],[1,2,0,3,4],[2,0,1,3,4],[2,0,3,1,4],[2,1,0,3,4]]
def encIs (l:List Ins):AVal:=.sl (l.map encIns)
def pH (g:Gl) (s:Bs) (l:Nat) (c:LoopS) (k:Nat):List AObj :=
 gls g++[.box 24 [.slf []],.box 3 [iv 0],.box 34 [iv 0],.vmap (encM (labels s)),.box 186 [.mp 7],.map (rdF 8),.box 188 [.mp 9],
  .vmap (encM (pSt (labels s) (chunks s) k).1),.box 186 [.mp 11],.box 24 [.arr 16 ((pSt (labels s) (chunks s) k).2.length+1)],.box 3 [iv k],.box 9 [sv (restAt s k)],
  .arr ((pSt (labels s) (chunks s) k).2.length+1) 176 4 ((pSt (labels s) (chunks s) k).2.map encIns),.loop l .ready none c [.ptr 4 0,.ptr 5 0,.ptr 6 0,.ptr 10 0,.ptr 12 0,.ptr 13 0,.ptr 14 0]]
theorem parse_ok (g:Gl) (s:Bs) (hs:s.length≤1000000):ACalls Tryz.prog 82 [sv s] (gls g) (one (.tup [encIs (parseP s).1,iv (parseP s).2.1,iv (parseP s).2.2]) (gls g)):=by
 have hl:=labels_ok s hs
 have hr:=readers_ok (labels s)
 have hln:=lines_ok s
 unfold parseP
 have hsz:((ByteArray.size ⟨s.toArray⟩:Int) > 40000)=(s.length > 40000):=by
  rw [show ByteArray.size ⟨s.toArray⟩=s.length from rfl];apply propext;omega
 by_cases h4:s.length > 40000
 ·rw [decide_eq_true h4]
  have hd:decide ((ByteArray.size ⟨s.toArray⟩:Int) > 40000)=true:=decide_eq_true (hsz ▸ h4)
  refine jC Tryz.func82 Tryz.ntmps82 (fun w0 β0 ext hβ=>?_)
  repeat (first|refine jS ?_|refine jD ?_|refine jB ?_)
  rw [hd]
  repeat (first|refine jS ?_|refine jD ?_|refine jB ?_)
  exact jR
 ·rw [decide_eq_false h4]
  have hd:decide ((ByteArray.size ⟨s.toArray⟩:Int) > 40000)=false:=decide_eq_false (hsz ▸ h4)
  refine jC Tryz.func82 Tryz.ntmps82 (fun w0 β0 ext hβ=>?_)
  repeat (first|refine jS ?_|refine jD ?_|refine jB ?_)
  rw [hd]
  repeat (first|refine jS ?_|refine jD ?_|refine jB ?_)
  refine jBb [] hl ?_
  repeat (first|refine jS ?_|refine jD ?_|refine jB ?_)
  refine jBb [7] hr ?_
  repeat (first|refine jS ?_|refine jD ?_|refine jB ?_|refine jo rfl rfl (map_newV) rfl rfl ?_)
  refine jBb [] hln ?_
  repeat (first|refine jS ?_|refine jD ?_|refine jB ?_)
  refine jadB 13 0 176 4 rfl rfl rfl rfl ?_
  refine jrange [2,3,4,6,7,8,9] rfl rfl rfl (fun l c c1 c2 c3 c4 c5=>?_)
  have hc:=lines1_ok l 15 s hs (pH g s l c) (fun k=>∀ q,q < k→pE (labels s) (chunks s) q=0) (fun q h=>absurd h (by omega))
   (fun H'=>∃ k,k < (chunks s).length∧(∀ q,q < k→pE (labels s) (chunks s) q=0)∧pE (labels s) (chunks s) k≠0∧∃ o7 o8 o9 o10 o11 o12 o13 o14 o15 o16,H'=gls g++[.box 24 [.slf []],.box 3 [iv (IntKind.i64.wrap ((k:Int)+1))],.box 34 [iv (pE (labels s) (chunks s) k)],o7,o8,o9,o10,o11,o12,o13,o14,o15,o16,.loop l .done (some .ret) c [.ptr 4 0,.ptr 5 0,.ptr 6 0,.ptr 10 0,.ptr 12 0,.ptr 13 0,.ptr 14 0]])
   (fun k _=>rfl) (fun k hk hok=>?_)
  ·refine ⟨_,hc,fun r H' hres=>?_⟩
   obtain ⟨rfl,⟨rfl,hok⟩|⟨k,hk,hok,hbad,o7,o8,o9,o10,o11,o12,o13,o14,o15,o16,rfl⟩⟩:=hres
   ·refine ⟨_,.ready,none,_,.normal,rfl,rfl,by decide,rfl,?_⟩
    rw [bad1_none hok]
    repeat (first|refine jS ?_|refine jD ?_|refine jB ?_)
    exact jr rfl (fin_arr rfl rfl rfl rfl) rfl rfl
   ·refine ⟨_,.done,some .ret,_,.ret,rfl,rfl,by decide,rfl,?_⟩
    rw [bad1_some hok hbad hk,wrap_id (n:=(k:Int)+1) (by have:=chunks_len s;omega) (by have:=chunks_len s;omega)]
    repeat (first|refine jS ?_|refine jD ?_|refine jB ?_)
    exact jR
  ·refine jround (ts:=[2,3,4,6,7,8,9]) c1 c2 c3 c4 c5 (j:=17) rfl rfl rfl (fun w1 β1 ext1 hβ1=>?_)
   clear c1 c2 c3 c4 c5
   have hcl:=chunks_len s
   have hkl:=chunk_len s hk
   have hst:=pSt_succ (m:=labels s) hk
   have hle:=pSt_le (labels s) (chunks s) k (by omega)
   have hE:pE (labels s) (chunks s) k=lineE (labels s) (pSt (labels s) (chunks s) k).1 (pSt (labels s) (chunks s) k).2.length (chunks s)[k]:=by simp [pE,List.getElem?_eq_getElem hk]
   have hnx:=idx_next hk (by omega)
   have hbl:=bare_len (chunks s)[k]
   have hcu:=cutSuffix_ok ((chunks s)[k]) [10] (by omega)
   have hcu2:=cutSuffix_ok (bare (chunks s)[k]) [58] (by omega)
   have hnm:=isName_ok (labName (bare (chunks s)[k]))
   have hins:=instr_ok g (labels s) (bare (chunks s)[k]) (by omega)
   have hnext:pE (labels s) (chunks s) k=0→∀ q,q < k+1→pE (labels s) (chunks s) q=0:=fun h0 q hq=>by
    by_cases hqk:q=k
    ·subst hqk;exact h0
    ·exact hok q (by omega)
   have hpk:pH g s l c (k+1)=gls g++[.box 24 [.slf []],.box 3 [iv 0],.box 34 [iv 0],.vmap (encM (labels s)),.box 186 [.mp 7],.map (rdF 8),.box 188 [.mp 9],
     .vmap (encM (bump (pSt (labels s) (chunks s) k).1 (bare (chunks s)[k]))),.box 186 [.mp 11],.box 24 [.arr 16 ((lineC (labels s) (pSt (labels s) (chunks s) k).2 (chunks s)[k]).length+1)],.box 3 [iv (IntKind.i64.wrap ((k:Int)+1))],.box 9 [sv (restAt s (k+1))],
     .arr ((lineC (labels s) (pSt (labels s) (chunks s) k).2 (chunks s)[k]).length+1) 176 4 ((lineC (labels s) (pSt (labels s) (chunks s) k).2 (chunks s)[k]).map encIns),.loop l .ready none c [.ptr 4 0,.ptr 5 0,.ptr 6 0,.ptr 10 0,.ptr 12 0,.ptr 13 0,.ptr 14 0]]:=by
    unfold pH
    rw [hst,hnx]
   rw [hpk]
   unfold pH
   rw [hE] at hnext
   generalize hstk:pSt (labels s) (chunks s) k=st at *
   obtain ⟨met,cd⟩:=st
   have hf:=encM_find met (bare (chunks s)[k])
   have hks:=encM_keys met
   have hpu:=bump_put met (bare (chunks s)[k])
   have hval:=cnt_val met (bare (chunks s)[k])
   have hf2:=encM_find (bump met (bare (chunks s)[k])) (bare (chunks s)[k])
   have hks2:=encM_keys (bump met (bare (chunks s)[k]))
   rw [bump_lookup] at hf2
   have hcn:=hle.1 (bare (chunks s)[k])
   simp only at hcn
   have hadd:IntKind.i64.wrap (cnt met (bare (chunks s)[k])+1)=cnt met (bare (chunks s)[k])+1:=wrap_id (by omega) (by omega)
   rw [←hadd] at hpu
   clear hst hl hr hln hstk
   rw [show Lib.trimSuffix (chunks s)[k] [10]=bare (chunks s)[k] from rfl] at hcu
   rw [show Lib.trimSuffix (bare (chunks s)[k]) [58]=labName (bare (chunks s)[k]) from rfl] at hcu2
   unfold lineC
   unfold lineE ended at hE hnext
   unfold isLab at hE hnext ⊢
   generalize restAt s (k+1)=rr
   generalize restAt s k=rk
   generalize Lib.hasSuffix (chunks s)[k] [10]=e at *
   generalize Lib.hasSuffix (bare (chunks s)[k]) [58]=lab at *
   generalize nameP (labName (bare (chunks s)[k]))=nm at *
   generalize labName (bare (chunks s)[k])=lname at *
   generalize instrP (labels s) (bare (chunks s)[k])=ip at *
   obtain ⟨ins,bad⟩:=ip
   simp only at hE hnext hins
   unfold sv bv at hcu hcu2 hnm
   generalize bare (chunks s)[k]=b at *
   generalize (chunks s)[k]=ch at *
   repeat (first|refine jS ?_|refine jD ?_|refine jB ?_)
   refine jlp ⟨rfl,?_⟩
   repeat (first|refine jS ?_|refine jD ?_|refine jB ?_|refine jV hcu ?_|refine jV hcu2 ?_|refine jo rfl rfl (map_get rfl rfl rfl rfl rfl rfl rfl rfl rfl trivial hks hf hval) rfl rfl ?_|refine jo rfl rfl (map_put (mo':=.vmap (encM (bump met b))) (.inl rfl) rfl rfl rfl rfl rfl rfl rfl rfl rfl trivial hks hpu rfl) rfl rfl ?_)
   have hcd:cd.length≤k:=hle.2
   cases e
   ·simp only [Bool.not_false,Bool.true_or,cond_true] at hE
    repeat (first|refine jS ?_|refine jB ?_)
    refine jord2 (L1:=[0,1,2,3]) (L2:=[1,0,2,3]) (by kernel_rfl) rfl rfl ?_ ?_
    all_goals (
     repeat (first|refine jS ?_|refine jB ?_)
    )
    all_goals refine jrendW false (some .ret) rfl rfl rfl rfl (.inr ⟨rfl,k,hk,hok,by rw [hE];decide,?_⟩)
    all_goals rw [hE]
    all_goals exact ⟨_,_,_,_,_,_,_,_,_,_,rfl⟩
   ·cases lab
    ·simp only [Bool.not_true,Bool.false_or,Bool.false_and,cond_false] at hE hnext
     repeat (first|refine jS ?_|refine jD ?_|refine jB ?_)
     refine jBb [0,1,2,3,7,8,9] hins ?_
     repeat (first|refine jS ?_|refine jD ?_|refine jB ?_)
     by_cases hb0:bad=0
     ·subst hb0
      simp only [decide_true,cond_true] at hE hnext
      repeat (first|refine jS ?_|refine jB ?_|refine jo rfl rfl (len_arr rfl rfl rfl rfl) rfl rfl ?_)
      have hq:(((cd.map encIns).length:Int) == 1000)=decide (cd.length=1000):=by
       rw [List.length_map,Bool.eq_iff_iff];simp;omega
      cases h1000:decide (cd.length=1000) with
      | true =>
       rw [h1000] at hE hq
       simp only [cond_true] at hE
       rw [hq]
       repeat (first|refine jS ?_|refine jB ?_)
       refine jorders (Ls:=ord23) (by kernel_rfl) (fun L hm=>?_)
       simp only [ord23,List.mem_cons,List.not_mem_nil,or_false] at hm
       rcases hm with rfl|rfl|rfl|rfl|rfl|rfl|rfl|rfl
       all_goals (
        repeat (first|refine jS ?_|refine jB ?_)
       )
       all_goals refine jrendW false (some .ret) rfl rfl rfl rfl (.inr ⟨rfl,k,hk,hok,by rw [hE];decide,?_⟩)
       all_goals rw [hE]
       all_goals exact ⟨_,_,_,_,_,_,_,_,_,_,rfl⟩
      | false =>
       rw [h1000] at hnext hq
       rw [hq]
       repeat (first|refine jo rfl rfl (append_enc (enc:=encIns) (l:=cd) ins rfl rfl rfl rfl rfl rfl rfl rfl rfl rfl (fun _=>⟨rfl,rfl⟩) rfl (by omega) rfl rfl) rfl rfl ?_|refine jS ?_|refine jB ?_)
       refine jrendW false none rfl rfl rfl rfl (.inl ⟨rfl,?_,hnext rfl⟩)
       have e1:(cond false cd (cd++[ins])).length=cd.length+1:=by simp
       simp only [cond_false,List.length_append]
       rfl
     ·have e0:(bad == 0)=false:=by simpa using hb0
      have e1:(bad != 0)=true:=by simpa using hb0
      rw [decide_eq_false hb0] at hE
      simp only [cond_false] at hE
      rw [e0]
      repeat (first|refine jS ?_|refine jD ?_|refine jB ?_)
      rw [e1]
      repeat (first|refine jS ?_|refine jB ?_)
      refine jorders (Ls:=ord23) (by kernel_rfl) (fun L hm=>?_)
      simp only [ord23,List.mem_cons,List.not_mem_nil,or_false] at hm
      rcases hm with rfl|rfl|rfl|rfl|rfl|rfl|rfl|rfl
      all_goals (
       repeat (first|refine jS ?_|refine jB ?_)
      )
      all_goals refine jrendW false (some .ret) rfl rfl rfl rfl (.inr ⟨rfl,k,hk,hok,by rw [hE];exact hb0,?_⟩)
      all_goals rw [hE]
      all_goals exact ⟨_,_,_,_,_,_,_,_,_,_,rfl⟩
    ·cases nm
     ·simp only [Bool.not_true,Bool.not_false,Bool.false_or,Bool.true_and,Bool.and_self,cond_true] at hE
      repeat (first|refine jS ?_|refine jB ?_|refine jV hnm ?_)
      refine jord2 (L1:=[0,1,2,3]) (L2:=[1,0,2,3]) (by kernel_rfl) rfl rfl ?_ ?_
      all_goals (
       repeat (first|refine jS ?_|refine jB ?_)
      )
      all_goals refine jrendW false (some .ret) rfl rfl rfl rfl (.inr ⟨rfl,k,hk,hok,by rw [hE];decide,?_⟩)
      all_goals rw [hE]
      all_goals exact ⟨_,_,_,_,_,_,_,_,_,_,rfl⟩
     ·simp only [Bool.not_true,Bool.false_or,Bool.true_and,Bool.and_false,cond_false,cond_true] at hE hnext
      repeat (first|refine jS ?_|refine jD ?_|refine jB ?_|refine jV hnm ?_|refine jo rfl rfl (map_get rfl rfl rfl rfl rfl rfl rfl rfl rfl trivial hks2 hf2 rfl) rfl rfl ?_)
      cases hc1:decide (cnt met b+1 > 1) with
      | true =>
       rw [hc1] at hE
       simp only [cond_true] at hE
       repeat (first|refine jS ?_|refine jB ?_)
       refine jord2 (L1:=[0,1,2,3]) (L2:=[1,0,2,3]) (by kernel_rfl) rfl rfl ?_ ?_
       all_goals (
        repeat (first|refine jS ?_|refine jB ?_)
       )
       all_goals refine jrendW false (some .ret) rfl rfl rfl rfl (.inr ⟨rfl,k,hk,hok,by rw [hE];decide,?_⟩)
       all_goals rw [hE]
       all_goals exact ⟨_,_,_,_,_,_,_,_,_,_,rfl⟩
      | false =>
       rw [hc1] at hnext
       repeat (first|refine jS ?_|refine jD ?_|refine jB ?_)
       exact jrendW false none rfl rfl rfl rfl (.inl ⟨rfl,rfl,hnext rfl⟩)
end Go.AL
end
section
set_option maxRecDepth 100000
namespace Go.AL
open Go Go.Proofs
attribute [local irreducible] J
theorem u8_eq (d c:UInt8):((d.toNat:Int) == (c.toNat:Int))=decide (d=c):=by
 rw [Bool.eq_iff_iff]
 simp
 exact ⟨fun h=>UInt8.toNat_inj.1 (by omega),fun h=>by rw [h]⟩
theorem str_at {s:Bs} {i:Nat} {c:UInt8} (h:s[i]? = some c):(⟨s.toArray⟩:ByteArray)[((i:Int)).toNat]? = some c:=by
 obtain ⟨hi,hc⟩:=List.getElem?_eq_some_iff.1 h
 have hsz:((i:Int)).toNat < (⟨s.toArray⟩:ByteArray).size:=hi
 rw [getElem?_pos (⟨s.toArray⟩:ByteArray) _ hsz]
 rw [←hc];rfl
section
variable {P:Program} [T:TyTab P] {F:Fr} {H:List AObj} {dst:Option Tmp} {t:TypeId} {x o o':Operand} {type:TypeId} {pos:String} {after:Array Edge} {guard:Option (Nat × Bool)} {s:Bs} {r':TyRow}
theorem cutB {n1 n2:Int} (a b:Nat) (hx:ev F x=some (sv s)) (ho:ev F o=some (.v (.int .i64 n1))) (ho':ev F o'=some (.v (.int .i64 n2))) (ht:tfind T.tab t=some r') (hd:r'.d = .string) (hn1:n1=a) (hn2:n2=b) (hab:a≤b) (hb:b≤s.length) :
  DSem P .p ⟨dst,.slice t x (some o) (some o') none,type,pos,after,guard⟩ F H (sv ((s.take b).drop a)) H:=by
 have:=cut_str (P:=P) (dst:=dst) (type:=type) (pos:=pos) (after:=after) (guard:=guard) (H:=H) (lo:=some o) (hi:=some o') (l:=n1) (h:=n2) hx ⟨.i64,ho⟩ ⟨.i64,ho'⟩ ht hd (by omega) (by omega) (by simp [ByteArray.size];omega)
 rw [hn1,hn2] at this
 have e:AVal.v (.string ((⟨s.toArray⟩:ByteArray).extract a b))=sv ((s.take b).drop a):=by
  unfold sv S
  congr 2
  apply ByteArray.ext
  apply Array.ext'
  simp [ByteArray.data_extract,List.drop_take]
 rw [←e]
 simpa [hn1,hn2] using this
end
def spSt (c:UInt8) (s:Bs):Nat→List Bs × Nat
 | 0=>([],0)
 | i+1=>cond (decide (s.getD i 0=c)) ((spSt c s i).1++[(s.take i).drop (spSt c s i).2],i+1) (spSt c s i)
def rsplit (c:UInt8) (s:Bs):List Bs:=(spSt c s s.length).1++[s.drop (spSt c s s.length).2]
theorem spSt_le (c:UInt8) (s:Bs):∀ i,(spSt c s i).2≤i∧(spSt c s i).1.length≤i
 | 0=>⟨Nat.le_refl _,Nat.le_refl _⟩
 | i+1=>by
  have ih:=spSt_le c s i
  unfold spSt
  cases decide (s.getD i 0=c)<;>simp<;>omega
theorem rsplit_ok (s:Bs) (c:UInt8) (hs:s.length≤900000):ACalls Tryz.prog 68 [sv s,.v (.int .u8 c.toNat)] [] (one (.sl ((rsplit c s).map sv)) []):=by
 refine jC Tryz.func68 Tryz.ntmps68 (fun w0 β0 ext hβ=>?_)
 repeat (first|refine jS ?_|refine jD ?_)
 refine jbo rfl rfl rfl rfl rfl rfl rfl rfl ?_
 repeat (first|refine jS ?_|refine jD ?_|refine jB ?_)
 refine jloopI (fun i:Nat=>i≤s.length) [0,1,5,6,7] (fun i=>[sv s,.v (.int .u8 c.toNat),.arr 0 ((spSt c s i).1.length+1),.v (.int .i64 ((spSt c s i).2:Int)),.v (.int .i64 (i:Int))])
  (fun i=>[.arr ((spSt c s i).1.length+1) 9 ty9.size ((spSt c s i).1.map sv)]) (fun i=>s.length-i) 0 (Nat.zero_le _) rfl rfl (fun i hi=>?_)
 have hle:=spSt_le c s i
 have hl:ByteArray.size ⟨s.toArray⟩=s.length:=rfl
 repeat (first|refine jS ?_|refine jD ?_|refine jB ?_)
 refine jc rfl rfl rfl (fun h=>?_) (fun h=>?_)
 ·have h:=of_decide_eq_true h
  have hi2:i < s.length:=by rw [hl] at h;omega
  obtain ⟨d,hd⟩:∃ d,s[i]? = some d:=⟨_,List.getElem?_eq_getElem hi2⟩
  have hdd:s.getD i 0=d:=by simp [List.getD,hd]
  have hat:=str_at hd
  have hnx:=idx_next hi2 (by omega)
  have hs1:spSt c s (i+1)=cond (decide (s.getD i 0=c)) ((spSt c s i).1++[(s.take i).drop (spSt c s i).2],i+1) (spSt c s i):=rfl
  rw [hdd] at hs1
  have he:((d.toNat:Int) == (c.toNat:Int))=decide (d=c):=by
   rw [Bool.eq_iff_iff]
   simp
   exact ⟨fun h=>UInt8.toNat_inj.1 (by omega),fun h=>by rw [h]⟩
  generalize spSt c s i=st at *
  obtain ⟨o,f⟩:=st
  simp only at hle
  repeat (first|refine jS ?_|refine jD ?_|refine jB ?_|refine jo rfl rfl (index_str rfl rfl rfl rfl (Int.natCast_nonneg i) hat) rfl rfl ?_)
  rw [he]
  cases hc:decide (d=c) with
  | true =>
   rw [hc] at hs1
   repeat (first|refine jo rfl rfl (append_enc (enc:=sv) (l:=o) ((s.take i).drop f) rfl rfl rfl rfl rfl rfl rfl rfl rfl rfl (fun _=>⟨rfl,rfl⟩) rfl (by omega) rfl rfl) rfl rfl ?_|refine jS ?_|refine jD ?_|refine jB ?_|refine jo rfl rfl (cutB f i rfl rfl rfl rfl rfl rfl rfl hle.1 (by omega)) rfl rfl ?_)
   refine jnextI (i+1) (by omega) ?_ ?_ (by omega)
   ·rw [hs1]
    simp only [cond_true,List.length_append,hnx]
    rfl
   ·rw [hs1]
    simp only [cond_true,List.length_append]
    rfl
  | false =>
   rw [hc] at hs1
   repeat (first|refine jS ?_|refine jD ?_|refine jB ?_)
   refine jnextI (i+1) (by omega) ?_ ?_ (by omega)
   ·rw [hs1,←hnx];rfl
   ·rw [hs1];rfl
 ·have h:=of_decide_eq_false h
  have hi2:i=s.length:=by rw [hl] at h;omega
  subst hi2
  unfold rsplit
  generalize spSt c s s.length=st at *
  obtain ⟨o,f⟩:=st
  simp only at hle
  repeat (first|refine jo rfl rfl (append_enc (enc:=sv) (l:=o) (s.drop f) rfl rfl rfl rfl rfl rfl rfl rfl rfl rfl (fun _=>⟨rfl,rfl⟩) rfl (by omega) rfl rfl) rfl rfl ?_|refine jS ?_|refine jD ?_|refine jB ?_|refine jo rfl rfl (cutL f rfl rfl rfl rfl rfl hle.1) rfl rfl ?_)
  exact jr rfl (finish0_arr rfl) rfl rfl
def rlab (s:Bs):Bool:=match s.getLast? with|some c=>decide (c=58)|none=>false
theorem rlab_ok (s:Bs) (hs:s.length≤1000000):ACalls Tryz.prog 155 [sv s] [] (one (bv (rlab s)) []):=by
 have hl:ByteArray.size ⟨s.toArray⟩=s.length:=rfl
 unfold rlab
 cases hg:s.getLast? with
 | none =>
  have h0:s=[]:=List.getLast?_eq_none_iff.1 hg
  subst h0
  unfold sv S
  refine jC Tryz.func155 Tryz.ntmps155 (fun w0 β0 ext hβ=>?_)
  repeat (first|refine jS ?_|refine jD ?_|refine jB ?_)
  exact jR
 | some c =>
  have hne:s≠[]:=fun h=>by subst h;simp at hg
  have hpos:0 < s.length:=by cases s with|nil=>exact absurd rfl hne|cons=>simp
  have hd:s[s.length-1]? = some c:=by rw [←hg,List.getLast?_eq_getElem?]
  have hgt:decide ((ByteArray.size ⟨s.toArray⟩:Int) > 0)=true:=decide_eq_true (by rw [hl];omega)
  have hw:IntKind.i64.wrap ((ByteArray.size ⟨s.toArray⟩:Int)-1)=((s.length-1:Nat):Int):=by rw [hl,wrap_id (by omega) (by omega)];omega
  have hat:=str_at hd
  have he:((c.toNat:Int) == 58)=decide (c=58):=u8_eq c 58
  refine jC Tryz.func155 Tryz.ntmps155 (fun w0 β0 ext hβ=>?_)
  repeat (first|refine jS ?_|refine jD ?_|refine jB ?_)
  rw [hgt]
  repeat (first|refine jS ?_|refine jD ?_|refine jB ?_)
  rw [hw]
  repeat (first|refine jS ?_|refine jD ?_|refine jB ?_|refine jo rfl rfl (index_str rfl rfl rfl rfl (Int.natCast_nonneg _) hat) rfl rfl ?_)
  simp only
  rw [←he]
  exact jR
end Go.AL
end
section
set_option maxRecDepth 100000
namespace Go.AL
open Go Go.Proofs
attribute [local irreducible] J
def azn (c:UInt8):Bool:=!((decide ((c.toNat:Int) < 97)||decide ((c.toNat:Int) > 122))&&(decide ((c.toNat:Int) < 48)||decide ((c.toNat:Int) > 57)))
def rname (s:Bs):Bool:=match s with
 | []=>false
 | c::r=>decide (r.length+1≤12) && !decide ((c.toNat:Int) < 97) && !decide ((c.toNat:Int) > 122)&&(c::r).all azn
theorem rname_ok (s : Bs) (hs : s.length ≤ 1000000) : ACalls Tryz.prog 156 [sv s] [] (one (bv (rname s)) []) := by
  cases s with
  | nil =>
    unfold sv S
    refine jC Tryz.func156 Tryz.ntmps156 (fun w0 β0 ext hβ => ?_)
    repeat (first | refine jS ?_ | refine jD ?_ | refine jB ?_)
    exact jR
  | cons c r =>
    have hl : ByteArray.size ⟨(c :: r).toArray⟩ = r.length + 1 := rfl
    have e1 : decide ((ByteArray.size ⟨(c :: r).toArray⟩ : Int) < 1) = false := decide_eq_false (by rw [hl]; omega)
    have e2 : decide ((ByteArray.size ⟨(c :: r).toArray⟩ : Int) > 12) = !decide (r.length + 1 ≤ 12) := by rw [hl, Bool.eq_iff_iff]; simp; omega
    unfold rname
    refine jC Tryz.func156 Tryz.ntmps156 (fun w0 β0 ext hβ => ?_)
    repeat (first | refine jS ?_ | refine jD ?_ | refine jB ?_)
    rw [e1]
    repeat (first | refine jS ?_ | refine jD ?_ | refine jB ?_)
    rw [e2]
    simp only
    generalize hb1 : decide (r.length + 1 ≤ 12) = b1
    cases b1
    · repeat (first | refine jS ?_ | refine jD ?_ | refine jB ?_ | refine jo rfl rfl (index_str rfl rfl rfl rfl (by decide) (c := c) rfl) rfl rfl ?_)
      exact jR
    · repeat (first | refine jS ?_ | refine jD ?_ | refine jB ?_ | refine jo rfl rfl (index_str rfl rfl rfl rfl (by decide) (c := c) rfl) rfl rfl ?_)
      cases hb2 : decide ((c.toNat : Int) < 97) with
      | true =>
        repeat (first | refine jS ?_ | refine jD ?_ | refine jB ?_ | refine jo rfl rfl (index_str rfl rfl rfl rfl (by decide) (c := c) rfl) rfl rfl ?_)
        exact jR
      | false =>
        repeat (first | refine jS ?_ | refine jD ?_ | refine jB ?_ | refine jo rfl rfl (index_str rfl rfl rfl rfl (by decide) (c := c) rfl) rfl rfl ?_)
        cases hb3 : decide ((c.toNat : Int) > 122) with
        | true =>
          repeat (first | refine jS ?_ | refine jD ?_ | refine jB ?_)
          exact jR
        | false =>
          repeat (first | refine jS ?_ | refine jD ?_ | refine jB ?_)
          refine jloopI (fun i : Nat => i ≤ (c :: r).length ∧ ∀ q, q < i → azn ((c :: r).getD q 0) = true) [0, 3] (fun i => [sv (c :: r), .v (.int .i64 (i : Int))]) (fun _ => []) (fun i => (c :: r).length - i) 0 ⟨Nat.zero_le _, fun q h => absurd h (by omega)⟩ rfl rfl (fun i hi => ?_)
          obtain ⟨hi, hok⟩ := hi
          have hlen : (c :: r).length ≤ 1000000 := hs
          generalize c :: r = s at *
          have hl2 : ByteArray.size ⟨s.toArray⟩ = s.length := rfl
          repeat (first | refine jS ?_ | refine jD ?_ | refine jB ?_)
          refine jc rfl rfl rfl (fun h => ?_) (fun h => ?_)
          · have h := of_decide_eq_true h
            have hi2 : i < s.length := by rw [hl2] at h; omega
            obtain ⟨d, hd⟩ : ∃ d, s[i]? = some d := ⟨_, List.getElem?_eq_getElem hi2⟩
            have hdd : s.getD i 0 = d := by simp [List.getD, hd]
            have hdm : d ∈ s := List.mem_of_getElem? hd
            have hat := str_at hd
            have hnx := idx_next hi2 (by omega)
            have hgo : azn d = true → ∀ q, q < i + 1 → azn (s.getD q 0) = true := fun h0 q hq => by
              by_cases hqi : q = i
              · subst hqi; rw [hdd]; exact h0
              · exact hok q (by omega)
            have hno : azn d = false → s.all azn = false := fun h0 => by
              rw [List.all_eq_false]; exact ⟨d, hdm, by rw [h0]; simp⟩
            have hd255 := d.toNat_lt
            clear h hok e1 e2 hl hb1 hb2 hb3
            repeat' (first | refine jS ?_ | refine jD ?_ | refine jB ?_ | refine jo rfl rfl (index_str rfl rfl rfl rfl (Int.natCast_nonneg i) hat) rfl rfl ?_ | refine jo rfl rfl (index_at rfl rfl rfl rfl rfl rfl rfl rfl (by omega) (by omega)) rfl rfl ?_ | (refine jc rfl rfl rfl (fun h => ?_) (fun h => ?_) <;> (try simp only [decide_eq_true_eq, decide_eq_false_iff_not, beq_iff_eq, beq_eq_false_iff_ne, bne_iff_ne, bne_eq_false_iff_eq, ne_eq] at h) <;> (try (exfalso; omega))) | (refine jg rfl rfl rfl rfl (fun h => ?_) (fun h => ?_) <;> (fail_if_success (exact absurd h (by decide))) <;> (try simp only [decide_eq_true_eq, decide_eq_false_iff_not, beq_iff_eq, beq_eq_false_iff_ne, bne_iff_ne, bne_eq_false_iff_eq, ne_eq] at h) <;> (try (exfalso; omega))))
            all_goals first
              | (refine jnextI (i + 1) ⟨by omega, hgo (by unfold azn; simp; omega)⟩ ?_ rfl (by omega)
                 show some _ = some _
                 rw [hnx])
              | (rw [hno (by unfold azn; simp; omega)]
                 exact jR)
          · have h := of_decide_eq_false h
            have hi2 : i = s.length := by rw [hl2] at h; omega
            have hall : s.all azn = true := by
              rw [List.all_eq_true]
              intro x hx
              obtain ⟨q, hq, rfl⟩ := List.getElem_of_mem hx
              have := hok q (by omega)
              simpa [List.getD, hq] using this
            rw [hall]
            repeat (first | refine jS ?_ | refine jD ?_ | refine jB ?_)
            exact jR
end Go.AL
end
section
set_option maxRecDepth 100000
namespace Go.AL
open Go Go.Proofs
attribute [local irreducible] J
def isDig (c:UInt8):Bool:=!(decide ((c.toNat:Int) < 48)||decide ((c.toNat:Int) > 57))
def dsum (t:Bs) (i:Nat):Int:=(t.take i).foldl (fun n c=>10*n+((c.toNat:Int)-48)) 0
theorem dsum_succ {t:Bs} {i:Nat} {d:UInt8} (h:t[i]? = some d):dsum t (i+1)=10*dsum t i+((d.toNat:Int)-48):=by
 obtain ⟨hi,hd⟩:=List.getElem?_eq_some_iff.1 h
 unfold dsum
 rw [List.take_succ_eq_append_getElem hi,List.foldl_append,hd];rfl
theorem dsum_le (t:Bs):∀ i,(∀ q,q < i→isDig (t.getD q 48)=true)→0≤dsum t i∧dsum t i < (10 ^ i:Nat)
 | 0,_=>by simp [dsum]
 | i+1,h=>by
  obtain ⟨h1,h2⟩:=dsum_le t i fun q hq=>h q (by omega)
  cases hd:t[i]? with
  | none =>
   have e:dsum t (i+1)=dsum t i:=by
    have:=List.getElem?_eq_none_iff.1 hd
    unfold dsum
    rw [List.take_of_length_le (by omega),List.take_of_length_le (by omega)]
   rw [e]
   have:10 ^ i≤10 ^ (i+1):=Nat.pow_le_pow_right (by omega) (by omega)
   omega
  | some d =>
   rw [dsum_succ hd]
   have hdg:=h i (by omega)
   have hdd:t.getD i 48=d:=by simp [List.getD,hd]
   rw [hdd] at hdg
   unfold isDig at hdg
   simp at hdg
   have:10 ^ (i+1)=10*10 ^ i:=by rw [Nat.pow_succ];omega
   omega
def rnumT (bl:Bool) (t:Bs):Int × Bool :=
 match t with
 | []=>(0,false)
 | c::r=>cond (decide (r.length+1 > 10)||(decide (c=48)&&(decide (r.length+1 > 1)||bl))) (0,false)
   (cond ((c::r).all isDig) (cond (decide (dsum (c::r) (r.length+1) > 1000000000)) (0,false) (cond bl (0-dsum (c::r) (r.length+1)) (dsum (c::r) (r.length+1)),true)) (0,false))
def rnum (s:Bs):Int × Bool :=
 match s with
 | []=>(0,false)
 | c::r=>cond (decide (c=45)) (rnumT true r) (rnumT false (c::r))
theorem rnum_ok (s : Bs) (hs : s.length ≤ 1000000) : ACalls Tryz.prog 234 [sv s] [] (one (.tup [iv (rnum s).1, bv (rnum s).2]) []) := by
  cases s with
  | nil =>
    unfold sv S
    refine jC Tryz.func234 Tryz.ntmps234 (fun w0 β0 ext hβ => ?_)
    repeat (first | refine jS ?_ | refine jD ?_ | refine jB ?_)
    exact jR
  | cons c r =>
    have hl : ByteArray.size ⟨(c :: r).toArray⟩ = r.length + 1 := rfl
    have e1 : decide ((ByteArray.size ⟨(c :: r).toArray⟩ : Int) > 0) = true := decide_eq_true (by rw [hl]; omega)
    have e45 : ((c.toNat : Int) == 45) = decide (c = 45) := u8_eq c 45
    unfold rnum
    refine jC Tryz.func234 Tryz.ntmps234 (fun w0 β0 ext hβ => ?_)
    repeat (first | refine jS ?_ | refine jD ?_ | refine jB ?_)
    rw [e1]
    repeat (first | refine jS ?_ | refine jD ?_ | refine jB ?_ | refine jo rfl rfl (index_str rfl rfl rfl rfl (by decide) (c := c) rfl) rfl rfl ?_)
    rw [e45]
    simp only
    cases hb : decide (c = 45) with
    | true =>
      repeat (first | refine jS ?_ | refine jB ?_)
      refine jo rfl rfl (cutL 1 rfl rfl rfl rfl rfl (by simp)) rfl rfl ?_
      refine jS ?_
      refine jre 0 (sv r) rfl rfl rfl ?_
      clear hl e1 e45 hb
      cases r with
      | nil =>
        unfold sv S
        repeat (first | refine jS ?_ | refine jD ?_ | refine jB ?_)
        exact jR
      | cons c r =>
        have hl1 : ByteArray.size ⟨(c :: r).toArray⟩ = r.length + 1 := rfl
        have f1 : decide ((ByteArray.size ⟨(c :: r).toArray⟩ : Int) < 1) = false := decide_eq_false (by rw [hl1]; omega)
        have f2 : decide ((ByteArray.size ⟨(c :: r).toArray⟩ : Int) > 10) = decide (r.length + 1 > 10) := by rw [hl1, Bool.eq_iff_iff]; simp; omega
        have f3 : decide ((ByteArray.size ⟨(c :: r).toArray⟩ : Int) > 1) = decide (r.length + 1 > 1) := by rw [hl1, Bool.eq_iff_iff]; simp; omega
        have e48 : ((c.toNat : Int) == 48) = decide (c = 48) := u8_eq c 48
        repeat (first | refine jS ?_ | refine jD ?_ | refine jB ?_)
        rw [f1]
        repeat (first | refine jS ?_ | refine jD ?_ | refine jB ?_)
        rw [f2]
        unfold rnumT
        simp only
        cases hb1 : decide (r.length + 1 > 10) with
        | true =>
          repeat (first | refine jS ?_ | refine jD ?_ | refine jB ?_)
          exact jR
        | false =>
          repeat (first | refine jS ?_ | refine jD ?_ | refine jB ?_ | refine jo rfl rfl (index_str rfl rfl rfl rfl (by decide) (c := c) rfl) rfl rfl ?_)
          rw [e48]
          cases h48 : decide (c = 48) with
          | false =>
            repeat (first | refine jS ?_ | refine jD ?_ | refine jB ?_)
            simp only [Bool.false_or, Bool.or_false, Bool.and_false, Bool.false_and, cond_false]
            have hlen : (c :: r).length ≤ 10 := by have := of_decide_eq_false hb1; simp; omega
            have hln : r.length + 1 = (c :: r).length := rfl
            rw [hln]
            clear f1 f2 f3 e48 h48 hb1 hl1 hln
            generalize c :: r = s at *
            refine jloopI (fun i : Nat => i ≤ s.length ∧ ∀ q, q < i → isDig (s.getD q 48) = true) [0, 4, 5, 6] (fun i => [sv s, .v (.bool true), .v (.int .i64 (dsum s i)), .v (.int .i64 (i : Int))]) (fun _ => []) (fun i => s.length - i) 0 ⟨Nat.zero_le _, fun q h => absurd h (by omega)⟩ rfl rfl (fun i hi => ?_)
            obtain ⟨hi, hok⟩ := hi
            have hbd := dsum_le s i hok
            have hp : 10 ^ i ≤ 10 ^ 10 := Nat.pow_le_pow_right (by omega) (by omega)
            have hl2 : ByteArray.size ⟨s.toArray⟩ = s.length := rfl
            repeat (first | refine jS ?_ | refine jD ?_ | refine jB ?_)
            refine jc rfl rfl rfl (fun h => ?_) (fun h => ?_)
            · have h := of_decide_eq_true h
              have hi2 : i < s.length := by rw [hl2] at h; omega
              obtain ⟨d, hd⟩ : ∃ d, s[i]? = some d := ⟨_, List.getElem?_eq_getElem hi2⟩
              have hdd : s.getD i 48 = d := by simp [List.getD, hd]
              have hdm : d ∈ s := List.mem_of_getElem? hd
              have hat := str_at hd
              have hnx := idx_next hi2 (by omega)
              have hsum := dsum_succ hd
              have hgo : isDig d = true → ∀ q, q < i + 1 → isDig (s.getD q 48) = true := fun h0 q hq => by
                by_cases hqi : q = i
                · subst hqi; rw [hdd]; exact h0
                · exact hok q (by omega)
              have hno : isDig d = false → s.all isDig = false := fun h0 => by
                rw [List.all_eq_false]; exact ⟨d, hdm, by rw [h0]; simp⟩
              have hd255 := d.toNat_lt
              have hw : 48 ≤ (d.toNat : Int) → IntKind.i64.wrap (IntKind.i64.wrap (10 * dsum s i) + IntKind.i64.wrap (IntKind.u8.wrap ((d.toNat : Int) - 48))) = dsum s (i + 1) := fun h48 => by
                have e1 : IntKind.u8.wrap ((d.toNat : Int) - 48) = (d.toNat : Int) - 48 := by
                  simp only [IntKind.wrap, IntKind.bits, IntKind.signed]
                  simp
                  omega
                rw [e1, wrap_id (n := (d.toNat : Int) - 48) (by omega) (by omega), wrap_id (n := 10 * dsum s i) (by omega) (by omega), hsum, wrap_id (by omega) (by omega)]
              clear h hok
              repeat' (first | refine jS ?_ | refine jD ?_ | refine jB ?_ | refine jo rfl rfl (index_str rfl rfl rfl rfl (Int.natCast_nonneg i) hat) rfl rfl ?_ | refine jo rfl rfl (index_at rfl rfl rfl rfl rfl rfl rfl rfl (by omega) (by omega)) rfl rfl ?_ | (refine jc rfl rfl rfl (fun h => ?_) (fun h => ?_) <;> (try simp only [decide_eq_true_eq, decide_eq_false_iff_not, beq_iff_eq, beq_eq_false_iff_ne, bne_iff_ne, bne_eq_false_iff_eq, ne_eq] at h) <;> (try (exfalso; omega))) | (refine jg rfl rfl rfl rfl (fun h => ?_) (fun h => ?_) <;> (fail_if_success (exact absurd h (by decide))) <;> (try simp only [decide_eq_true_eq, decide_eq_false_iff_not, beq_iff_eq, beq_eq_false_iff_ne, bne_iff_ne, bne_eq_false_iff_eq, ne_eq] at h) <;> (try (exfalso; omega))))
              all_goals first
                | (refine jnextI (i + 1) ⟨by omega, hgo (by unfold isDig; simp; omega)⟩ ?_ rfl (by omega)
                   show some _ = some _
                   rw [hnx, hw (by omega)])
                | (rw [hno (by unfold isDig; simp; omega)]
                   exact jR)
            · have h := of_decide_eq_false h
              have hi2 : i = s.length := by rw [hl2] at h; omega
              subst hi2
              have hall : s.all isDig = true := by
                rw [List.all_eq_true]
                intro x hx
                obtain ⟨q, hq, rfl⟩ := List.getElem_of_mem hx
                have := hok q (by omega)
                simpa [List.getD, hq] using this
              rw [hall]
              simp only [cond_true]
              have hneg : IntKind.i64.wrap (0 - dsum s s.length) = 0 - dsum s s.length := wrap_id (by omega) (by omega)
              repeat (first | refine jS ?_ | refine jD ?_ | refine jB ?_)
              cases hgt : decide (dsum s s.length > 1000000000) with
              | true =>
                repeat (first | refine jS ?_ | refine jD ?_ | refine jB ?_)
                exact jR
              | false =>
                repeat (first | refine jS ?_ | refine jD ?_ | refine jB ?_)
                try rw [hneg]
                exact jR
          | true =>
            repeat (first | refine jS ?_ | refine jD ?_ | refine jB ?_)
            rw [f3]
            cases h1 : decide (r.length + 1 > 1) with
            | true =>
              repeat (first | refine jS ?_ | refine jD ?_ | refine jB ?_)
              exact jR
            | false =>
              repeat (first | refine jS ?_ | refine jD ?_ | refine jB ?_)
              exact jR
    | false =>
      clear e1 e45 hl hb
      have hl1 : ByteArray.size ⟨(c :: r).toArray⟩ = r.length + 1 := rfl
      have f1 : decide ((ByteArray.size ⟨(c :: r).toArray⟩ : Int) < 1) = false := decide_eq_false (by rw [hl1]; omega)
      have f2 : decide ((ByteArray.size ⟨(c :: r).toArray⟩ : Int) > 10) = decide (r.length + 1 > 10) := by rw [hl1, Bool.eq_iff_iff]; simp; omega
      have f3 : decide ((ByteArray.size ⟨(c :: r).toArray⟩ : Int) > 1) = decide (r.length + 1 > 1) := by rw [hl1, Bool.eq_iff_iff]; simp; omega
      have e48 : ((c.toNat : Int) == 48) = decide (c = 48) := u8_eq c 48
      repeat (first | refine jS ?_ | refine jD ?_ | refine jB ?_)
      rw [f2]
      unfold rnumT
      simp only
      cases hb1 : decide (r.length + 1 > 10) with
      | true =>
        repeat (first | refine jS ?_ | refine jD ?_ | refine jB ?_)
        exact jR
      | false =>
        repeat (first | refine jS ?_ | refine jD ?_ | refine jB ?_ | refine jo rfl rfl (index_str rfl rfl rfl rfl (by decide) (c := c) rfl) rfl rfl ?_)
        rw [e48]
        cases h48 : decide (c = 48) with
        | false =>
          repeat (first | refine jS ?_ | refine jD ?_ | refine jB ?_)
          simp only [Bool.false_or, Bool.or_false, Bool.and_false, Bool.false_and, cond_false]
          have hlen : (c :: r).length ≤ 10 := by have := of_decide_eq_false hb1; simp; omega
          have hln : r.length + 1 = (c :: r).length := rfl
          rw [hln]
          clear f1 f2 f3 e48 h48 hb1 hl1 hln
          generalize c :: r = s at *
          refine jloopI (fun i : Nat => i ≤ s.length ∧ ∀ q, q < i → isDig (s.getD q 48) = true) [0, 4, 5, 6] (fun i => [sv s, .v (.bool false), .v (.int .i64 (dsum s i)), .v (.int .i64 (i : Int))]) (fun _ => []) (fun i => s.length - i) 0 ⟨Nat.zero_le _, fun q h => absurd h (by omega)⟩ rfl rfl (fun i hi => ?_)
          obtain ⟨hi, hok⟩ := hi
          have hbd := dsum_le s i hok
          have hp : 10 ^ i ≤ 10 ^ 10 := Nat.pow_le_pow_right (by omega) (by omega)
          have hl2 : ByteArray.size ⟨s.toArray⟩ = s.length := rfl
          repeat (first | refine jS ?_ | refine jD ?_ | refine jB ?_)
          refine jc rfl rfl rfl (fun h => ?_) (fun h => ?_)
          · have h := of_decide_eq_true h
            have hi2 : i < s.length := by rw [hl2] at h; omega
            obtain ⟨d, hd⟩ : ∃ d, s[i]? = some d := ⟨_, List.getElem?_eq_getElem hi2⟩
            have hdd : s.getD i 48 = d := by simp [List.getD, hd]
            have hdm : d ∈ s := List.mem_of_getElem? hd
            have hat := str_at hd
            have hnx := idx_next hi2 (by omega)
            have hsum := dsum_succ hd
            have hgo : isDig d = true → ∀ q, q < i + 1 → isDig (s.getD q 48) = true := fun h0 q hq => by
              by_cases hqi : q = i
              · subst hqi; rw [hdd]; exact h0
              · exact hok q (by omega)
            have hno : isDig d = false → s.all isDig = false := fun h0 => by
              rw [List.all_eq_false]; exact ⟨d, hdm, by rw [h0]; simp⟩
            have hd255 := d.toNat_lt
            have hw : 48 ≤ (d.toNat : Int) → IntKind.i64.wrap (IntKind.i64.wrap (10 * dsum s i) + IntKind.i64.wrap (IntKind.u8.wrap ((d.toNat : Int) - 48))) = dsum s (i + 1) := fun h48 => by
              have e1 : IntKind.u8.wrap ((d.toNat : Int) - 48) = (d.toNat : Int) - 48 := by
                simp only [IntKind.wrap, IntKind.bits, IntKind.signed]
                simp
                omega
              rw [e1, wrap_id (n := (d.toNat : Int) - 48) (by omega) (by omega), wrap_id (n := 10 * dsum s i) (by omega) (by omega), hsum, wrap_id (by omega) (by omega)]
            clear h hok
            repeat' (first | refine jS ?_ | refine jD ?_ | refine jB ?_ | refine jo rfl rfl (index_str rfl rfl rfl rfl (Int.natCast_nonneg i) hat) rfl rfl ?_ | refine jo rfl rfl (index_at rfl rfl rfl rfl rfl rfl rfl rfl (by omega) (by omega)) rfl rfl ?_ | (refine jc rfl rfl rfl (fun h => ?_) (fun h => ?_) <;> (try simp only [decide_eq_true_eq, decide_eq_false_iff_not, beq_iff_eq, beq_eq_false_iff_ne, bne_iff_ne, bne_eq_false_iff_eq, ne_eq] at h) <;> (try (exfalso; omega))) | (refine jg rfl rfl rfl rfl (fun h => ?_) (fun h => ?_) <;> (fail_if_success (exact absurd h (by decide))) <;> (try simp only [decide_eq_true_eq, decide_eq_false_iff_not, beq_iff_eq, beq_eq_false_iff_ne, bne_iff_ne, bne_eq_false_iff_eq, ne_eq] at h) <;> (try (exfalso; omega))))
            all_goals first
              | (refine jnextI (i + 1) ⟨by omega, hgo (by unfold isDig; simp; omega)⟩ ?_ rfl (by omega)
                 show some _ = some _
                 rw [hnx, hw (by omega)])
              | (rw [hno (by unfold isDig; simp; omega)]
                 exact jR)
          · have h := of_decide_eq_false h
            have hi2 : i = s.length := by rw [hl2] at h; omega
            subst hi2
            have hall : s.all isDig = true := by
              rw [List.all_eq_true]
              intro x hx
              obtain ⟨q, hq, rfl⟩ := List.getElem_of_mem hx
              have := hok q (by omega)
              simpa [List.getD, hq] using this
            rw [hall]
            simp only [cond_true]
            have hneg : IntKind.i64.wrap (0 - dsum s s.length) = 0 - dsum s s.length := wrap_id (by omega) (by omega)
            repeat (first | refine jS ?_ | refine jD ?_ | refine jB ?_)
            cases hgt : decide (dsum s s.length > 1000000000) with
            | true =>
              repeat (first | refine jS ?_ | refine jD ?_ | refine jB ?_)
              exact jR
            | false =>
              repeat (first | refine jS ?_ | refine jD ?_ | refine jB ?_)
              try rw [hneg]
              exact jR
        | true =>
          repeat (first | refine jS ?_ | refine jD ?_ | refine jB ?_)
          rw [f3]
          cases h1 : decide (r.length + 1 > 1) with
          | true =>
            repeat (first | refine jS ?_ | refine jD ?_ | refine jB ?_)
            exact jR
          | false =>
            repeat (first | refine jS ?_ | refine jD ?_ | refine jB ?_)
            simp only [Bool.false_or, Bool.or_false, Bool.and_false, Bool.false_and, cond_false]
            have hlen : (c :: r).length ≤ 10 := by have := of_decide_eq_false hb1; simp; omega
            have hln : r.length + 1 = (c :: r).length := rfl
            rw [hln]
            clear h1 f1 f2 f3 e48 h48 hb1 hl1 hln
            generalize c :: r = s at *
            refine jloopI (fun i : Nat => i ≤ s.length ∧ ∀ q, q < i → isDig (s.getD q 48) = true) [0, 4, 5, 6] (fun i => [sv s, .v (.bool false), .v (.int .i64 (dsum s i)), .v (.int .i64 (i : Int))]) (fun _ => []) (fun i => s.length - i) 0 ⟨Nat.zero_le _, fun q h => absurd h (by omega)⟩ rfl rfl (fun i hi => ?_)
            obtain ⟨hi, hok⟩ := hi
            have hbd := dsum_le s i hok
            have hp : 10 ^ i ≤ 10 ^ 10 := Nat.pow_le_pow_right (by omega) (by omega)
            have hl2 : ByteArray.size ⟨s.toArray⟩ = s.length := rfl
            repeat (first | refine jS ?_ | refine jD ?_ | refine jB ?_)
            refine jc rfl rfl rfl (fun h => ?_) (fun h => ?_)
            · have h := of_decide_eq_true h
              have hi2 : i < s.length := by rw [hl2] at h; omega
              obtain ⟨d, hd⟩ : ∃ d, s[i]? = some d := ⟨_, List.getElem?_eq_getElem hi2⟩
              have hdd : s.getD i 48 = d := by simp [List.getD, hd]
              have hdm : d ∈ s := List.mem_of_getElem? hd
              have hat := str_at hd
              have hnx := idx_next hi2 (by omega)
              have hsum := dsum_succ hd
              have hgo : isDig d = true → ∀ q, q < i + 1 → isDig (s.getD q 48) = true := fun h0 q hq => by
                by_cases hqi : q = i
                · subst hqi; rw [hdd]; exact h0
                · exact hok q (by omega)
              have hno : isDig d = false → s.all isDig = false := fun h0 => by
                rw [List.all_eq_false]; exact ⟨d, hdm, by rw [h0]; simp⟩
              have hd255 := d.toNat_lt
              have hw : 48 ≤ (d.toNat : Int) → IntKind.i64.wrap (IntKind.i64.wrap (10 * dsum s i) + IntKind.i64.wrap (IntKind.u8.wrap ((d.toNat : Int) - 48))) = dsum s (i + 1) := fun h48 => by
                have e1 : IntKind.u8.wrap ((d.toNat : Int) - 48) = (d.toNat : Int) - 48 := by
                  simp only [IntKind.wrap, IntKind.bits, IntKind.signed]
                  simp
                  omega
                rw [e1, wrap_id (n := (d.toNat : Int) - 48) (by omega) (by omega), wrap_id (n := 10 * dsum s i) (by omega) (by omega), hsum, wrap_id (by omega) (by omega)]
              clear h hok
              repeat' (first | refine jS ?_ | refine jD ?_ | refine jB ?_ | refine jo rfl rfl (index_str rfl rfl rfl rfl (Int.natCast_nonneg i) hat) rfl rfl ?_ | refine jo rfl rfl (index_at rfl rfl rfl rfl rfl rfl rfl rfl (by omega) (by omega)) rfl rfl ?_ | (refine jc rfl rfl rfl (fun h => ?_) (fun h => ?_) <;> (try simp only [decide_eq_true_eq, decide_eq_false_iff_not, beq_iff_eq, beq_eq_false_iff_ne, bne_iff_ne, bne_eq_false_iff_eq, ne_eq] at h) <;> (try (exfalso; omega))) | (refine jg rfl rfl rfl rfl (fun h => ?_) (fun h => ?_) <;> (fail_if_success (exact absurd h (by decide))) <;> (try simp only [decide_eq_true_eq, decide_eq_false_iff_not, beq_iff_eq, beq_eq_false_iff_ne, bne_iff_ne, bne_eq_false_iff_eq, ne_eq] at h) <;> (try (exfalso; omega))))
              all_goals first
                | (refine jnextI (i + 1) ⟨by omega, hgo (by unfold isDig; simp; omega)⟩ ?_ rfl (by omega)
                   show some _ = some _
                   rw [hnx, hw (by omega)])
                | (rw [hno (by unfold isDig; simp; omega)]
                   exact jR)
            · have h := of_decide_eq_false h
              have hi2 : i = s.length := by rw [hl2] at h; omega
              subst hi2
              have hall : s.all isDig = true := by
                rw [List.all_eq_true]
                intro x hx
                obtain ⟨q, hq, rfl⟩ := List.getElem_of_mem hx
                have := hok q (by omega)
                simpa [List.getD, hq] using this
              rw [hall]
              simp only [cond_true]
              have hneg : IntKind.i64.wrap (0 - dsum s s.length) = 0 - dsum s s.length := wrap_id (by omega) (by omega)
              repeat (first | refine jS ?_ | refine jD ?_ | refine jB ?_)
              cases hgt : decide (dsum s s.length > 1000000000) with
              | true =>
                repeat (first | refine jS ?_ | refine jD ?_ | refine jB ?_)
                exact jR
              | false =>
                repeat (first | refine jS ?_ | refine jD ?_ | refine jB ?_)
                try rw [hneg]
                exact jR
end Go.AL
end
section
set_option maxRecDepth 100000
namespace Go.AL
open Go Go.Proofs
attribute [local irreducible] J
theorem cat_str {P:Program} {F:Fr} {H:List AObj} {dst:Option Tmp} {t yt:TypeId} {x y:Operand} {type:TypeId} {pos:String} {after:Array Edge} {guard:Option (Nat × Bool)} {a b:Bs} (hx:ev F x=some (sv a)) (hy:ev F y=some (sv b)) (hl:a.length+b.length≤1000000000) :
  DSem P .p ⟨dst,.binOp .add t x y yt,type,pos,after,guard⟩ F H (sv (a++b)) H:=by
 refine ⟨rfl,fun H'=>Says.sem (says_bin hx hy (fun c u u' w r1 r2=>?_) ⟨_,rfl⟩) H'⟩
 cases (show u=S a from r1);cases (show u'=S b from r2)
 have hsz:¬(((ByteArray.size ⟨a.toArray⟩+ByteArray.size ⟨b.toArray⟩:Nat):Int) > IntKind.i64.max):=by
  rw [show ByteArray.size ⟨a.toArray⟩=a.length from rfl,show ByteArray.size ⟨b.toArray⟩=b.length from rfl,show IntKind.i64.max=9223372036854775807 from rfl]
  omega
 have hc:((⟨a.toArray⟩:ByteArray)++⟨b.toArray⟩)=⟨(a++b).toArray⟩:=by
  apply ByteArray.ext
  simp
 unfold S
 simp only [Sem.run_bind,run_eqGuard_string,Result.andThen_ok]
 simp only [binOp,Op.stringOp,if_neg hsz,hc]
 rfl
def nl (ls:List Bs) (i:Nat):Int:=(((ls.take i).filter fun l=>!rlab l).length:Nat)
theorem nl_succ {ls:List Bs} {i:Nat} (h:i < ls.length):nl ls (i+1)=cond (rlab ls[i]) (nl ls i) (nl ls i+1):=by
 unfold nl
 rw [List.take_succ_eq_append_getElem h,List.filter_append,List.length_append]
 cases hr:rlab ls[i]<;>simp [hr]
theorem nl_le (ls:List Bs) (i:Nat):0≤nl ls i∧nl ls i≤i:=by
 unfold nl
 have:=List.length_filter_le (fun l=>!rlab l) (ls.take i)
 rw [List.length_take] at this
 omega
def rtarget (ls:List Bs) (s:Bs):Int × Bool:=match ls.findIdx? (fun l=>decide (l=s++[58])) with|some i=>(nl ls i,true)|none=>(0,false)
theorem rtarget_ok (ls:List Bs) (s:Bs) (hs:s.length≤1000000) (hls:ls.length≤1000000) (hl:∀ l∈ls,l.length≤1000000):ACalls Tryz.prog 204 [.sl (ls.map sv),sv s] [] (one (.tup [iv (rtarget ls s).1,bv (rtarget ls s).2]) []):=by
 refine jC Tryz.func204 Tryz.ntmps204 (fun w0 β0 ext hβ=>?_)
 repeat (first|refine jS ?_|refine jD ?_|refine jB ?_)
 refine jloopI (fun i:Nat=>i≤ls.length∧∀ q,q < i→ls.getD q []≠s++[58]) [0,1,9,6,11,10] (fun i=>[.sl (ls.map sv),sv s,.sl (ls.map sv),.v (.int .i64 (nl ls i)),.v (.int .i64 (i:Int)),.v (.int .i64 ((ls.map sv).length:Int))]) (fun _=>[]) (fun i=>ls.length-i) 0 ⟨Nat.zero_le _,fun q h=>absurd h (by omega)⟩ ?_ rfl (fun i hi=>?_)
 ·rfl
 obtain ⟨hi,hok⟩:=hi
 have hnl:=nl_le ls i
 repeat (first|refine jS ?_|refine jD ?_|refine jB ?_)
 refine jc rfl rfl rfl (fun h=>?_) (fun h=>?_)
 ·have h:=of_decide_eq_true h
  rw [List.length_map] at h
  have hi2:i < ls.length:=by omega
  have hat:=at_nat ls i hi2
  have hlab:=rlab_ok (at' ls (i:Int)) (by rw [hat];exact hl _ (List.getElem_mem hi2))
  have key:=str_eq (at' ls (i:Int)) (s++[58])
  have hnx:=idx_next hi2 (by omega)
  have hsu:=nl_succ hi2
  have hgd:ls.getD i []=ls[i]:=by simp [List.getD,hi2]
  rw [←hat] at hsu hgd
  have hadd:IntKind.i64.wrap (nl ls i+1)=nl ls i+1:=wrap_id (by omega) (by omega)
  unfold sv bv at hlab
  have hcl:s.length+([58]:Bs).length≤1000000000:=by simp;omega
  repeat (first|refine jS ?_|refine jD ?_|refine jB ?_|refine jI (Int.natCast_nonneg i) h ?_|refine jo rfl rfl (cat_str rfl (b:=[58]) rfl hcl) rfl rfl ?_)
  rw [key]
  cases hc:decide (at' ls (i:Int)=s++[58]) with
  | true =>
   repeat (first|refine jS ?_|refine jD ?_|refine jB ?_)
   have:rtarget ls s=(nl ls i,true):=by
    unfold rtarget
    rw [List.findIdx?_eq_some_iff_getElem.2 ⟨hi2,by rw [←hat];exact hc,fun j hj=>by
     have:=hok j hj
     have hj2:j < ls.length:=by omega
     simpa [List.getD,hj2] using this⟩]
   rw [this]
   exact jR
  | false =>
   have hc:=of_decide_eq_false hc
   have hok':∀ q,q < i+1→ls.getD q []≠s++[58]:=fun q hq=>by
    by_cases hqi:q=i
    ·subst hqi;rw [hgd];exact hc
    ·exact hok q (by omega)
   cases hr:rlab (at' ls (i:Int)) with
   | true =>
    rw [hr] at hlab hsu
    repeat (first|refine jS ?_|refine jD ?_|refine jB ?_|refine jV hlab ?_)
    refine jnextI (i+1) ⟨by omega,hok'⟩ ?_ rfl (by omega)
    show some _=some _
    rw [hnx,hsu];rfl
   | false =>
    rw [hr] at hlab hsu
    repeat (first|refine jS ?_|refine jD ?_|refine jB ?_|refine jV hlab ?_)
    refine jnextI (i+1) ⟨by omega,hok'⟩ ?_ rfl (by omega)
    show some _=some _
    rw [hnx,hsu,hadd];rfl
 ·have h:=of_decide_eq_false h
  rw [List.length_map] at h
  have hi2:i=ls.length:=by omega
  repeat (first|refine jS ?_|refine jD ?_|refine jB ?_)
  have:rtarget ls s=(0,false):=by
   unfold rtarget
   rw [List.findIdx?_eq_none_iff.2 fun l hm=>by
    obtain ⟨q,hq,rfl⟩:=List.getElem_of_mem hm
    have:=hok q (by omega)
    simpa [List.getD,hq] using this]
  rw [this]
  exact jR
end Go.AL
end
section
set_option maxRecDepth 100000
namespace Go.AL
open Go Go.Proofs
attribute [local irreducible] J
def ropN (s:Bs):Int × Int:=cond (rnum s).2 ((rnum s).1,0) (0,3)
def ropT (ls:List Bs) (s:Bs):Int × Int:=cond (rname s) (cond (rtarget ls s).2 ((rtarget ls s).1,0) (0,11)) (0,3)
def rop (ls:List Bs) (k:UInt8) (s:Bs):Int × Int:=cond (decide (k=114)) (rdR s) (cond (decide (k=110)) (ropN s) (ropT ls s))
theorem rop_ok (ls:List Bs) (k:UInt8) (s:Bs) (hs:s.length≤1000000) (hls:ls.length≤1000000) (hl:∀ l∈ls,l.length≤1000000) :
  ACalls Tryz.prog 203 [.sl (ls.map sv),.v (.int .u8 k.toNat),sv s] [] (one (tup2 (rop ls k s)) []):=by
 have hn:=rnum_ok s hs
 have hm:=rname_ok s hs
 have ht:=rtarget_ok ls s hs hls hl
 have e1:((k.toNat:Int) == 114)=decide (k=114):=u8_eq k 114
 have e2:((k.toNat:Int) == 110)=decide (k=110):=u8_eq k 110
 unfold rop
 cases h1:decide (k=114) with
 | true =>
  rw [h1] at e1
  simp only [cond_true]
  rcases s with _|⟨a,_|⟨b,_|⟨c,r⟩⟩⟩
  ·refine jC Tryz.func203 Tryz.ntmps203 (fun w0 β0 ext hβ=>?_)
   unfold sv S
   repeat (first|refine jS ?_|refine jD ?_|refine jB ?_)
   rw [e1]
   repeat (first|refine jS ?_|refine jD ?_|refine jB ?_)
   exact jR
  ·refine jC Tryz.func203 Tryz.ntmps203 (fun w0 β0 ext hβ=>?_)
   unfold sv S
   repeat (first|refine jS ?_|refine jD ?_|refine jB ?_)
   rw [e1]
   repeat (first|refine jS ?_|refine jD ?_|refine jB ?_)
   exact jR
  ·have hb:(b.toNat:Int)≤255:=by have:=b.toNat_lt;omega
   have ha:((a.toNat:Int) != 114) = !decide (a.toNat=114):=by
    rw [Bool.eq_iff_iff];simp;omega
   have h8:inn b.toNat 48 55=true→IntKind.i64.wrap (IntKind.u8.wrap ((b.toNat:Int)-48))=(b.toNat:Int)-48:=fun hi=>by
    unfold inn at hi
    simp only [Bool.and_eq_true,decide_eq_true_eq] at hi
    simp only [IntKind.wrap,IntKind.bits,IntKind.signed]
    simp
    omega
   have hin:inn b.toNat 48 55=(!decide ((b.toNat:Int) < 48) && !decide ((b.toNat:Int) > 55)):=by
    unfold inn
    rw [Bool.eq_iff_iff];simp
   unfold rdR
   simp only
   rw [hin] at h8 ⊢
   refine jC Tryz.func203 Tryz.ntmps203 (fun w0 β0 ext hβ=>?_)
   unfold sv S
   repeat (first|refine jS ?_|refine jD ?_|refine jB ?_)
   rw [e1]
   repeat (first|refine jS ?_|refine jD ?_|refine jB ?_|refine jo rfl rfl (index_str rfl rfl rfl rfl (by decide) (c:=a) rfl) rfl rfl ?_|refine jo rfl rfl (index_str rfl rfl rfl rfl (by decide) (c:=b) rfl) rfl rfl ?_)
   rw [ha]
   generalize decide (a.toNat=114)=b1 at *
   cases b1
   ·repeat (first|refine jS ?_|refine jD ?_|refine jB ?_)
    exact jR
   ·repeat (first|refine jS ?_|refine jD ?_|refine jB ?_|refine jo rfl rfl (index_str rfl rfl rfl rfl (by decide) (c:=a) rfl) rfl rfl ?_|refine jo rfl rfl (index_str rfl rfl rfl rfl (by decide) (c:=b) rfl) rfl rfl ?_)
    generalize hx:decide ((b.toNat:Int) < 48)=x at *
    cases x
    ·repeat (first|refine jS ?_|refine jD ?_|refine jB ?_|refine jo rfl rfl (index_str rfl rfl rfl rfl (by decide) (c:=a) rfl) rfl rfl ?_|refine jo rfl rfl (index_str rfl rfl rfl rfl (by decide) (c:=b) rfl) rfl rfl ?_)
     generalize hy:decide ((b.toNat:Int) > 55)=y at *
     cases y
     ·repeat (first|refine jS ?_|refine jD ?_|refine jB ?_|refine jo rfl rfl (index_str rfl rfl rfl rfl (by decide) (c:=b) rfl) rfl rfl ?_)
      rw [h8 rfl]
      exact jR
     ·repeat (first|refine jS ?_|refine jD ?_|refine jB ?_)
      exact jR
    ·repeat (first|refine jS ?_|refine jD ?_|refine jB ?_)
     exact jR
  ·refine jC Tryz.func203 Tryz.ntmps203 (fun w0 β0 ext hβ=>?_)
   unfold sv S
   repeat (first|refine jS ?_|refine jD ?_|refine jB ?_)
   rw [e1]
   repeat (first|refine jS ?_|refine jD ?_|refine jB ?_)
   exact jR
 | false =>
  rw [h1] at e1
  simp only [cond_false]
  cases h2:decide (k=110) with
  | true =>
   rw [h2] at e2
   simp only [cond_true]
   unfold ropN
   generalize rnum s=p at *
   obtain ⟨n,ok⟩:=p
   unfold sv iv bv at hn
   cases ok
   all_goals refine jC Tryz.func203 Tryz.ntmps203 (fun w0 β0 ext hβ=>?_)
   all_goals (
    repeat (first|refine jS ?_|refine jD ?_|refine jB ?_)
   )
   all_goals rw [e1]
   all_goals (
    repeat (first|refine jS ?_|refine jD ?_|refine jB ?_)
   )
   all_goals rw [e2]
   all_goals (
    repeat (first|refine jS ?_|refine jD ?_|refine jB ?_|refine jV hn ?_)
   )
   all_goals exact jR
  | false =>
   rw [h2] at e2
   simp only [cond_false]
   unfold ropT
   generalize rtarget ls s=p at *
   generalize rname s=nm at *
   obtain ⟨n,ok⟩:=p
   unfold sv iv bv at ht
   unfold sv bv at hm
   cases nm<;>cases ok
   all_goals refine jC Tryz.func203 Tryz.ntmps203 (fun w0 β0 ext hβ=>?_)
   all_goals (
    repeat (first|refine jS ?_|refine jD ?_|refine jB ?_)
   )
   all_goals rw [e1]
   all_goals (
    repeat (first|refine jS ?_|refine jD ?_|refine jB ?_)
   )
   all_goals rw [e2]
   all_goals (
    repeat (first|refine jS ?_|refine jD ?_|refine jB ?_|refine jV hm ?_|refine jV ht ?_)
   )
   all_goals exact jR
end Go.AL
end
section
set_option maxRecDepth 100000
namespace Go.AL
open Go Go.Proofs
attribute [local irreducible] J
def opN:List Bs:=opsT.map (·.1)
def opK:List Bs:=opsT.map (·.2)
theorem opName_ok (k:Nat) (hk:k < 27):ACalls Tryz.prog 201 [iv k] [] (one (sv (at' opN (k:Int))) []):=by
 have e1:decide ((k:Int) < 0)=false:=decide_eq_false (by omega)
 have e2:decide ((k:Int)≥((27:Nat):Int))=false:=decide_eq_false (by omega)
 have h0:(0:Int)≤(k:Int):=by omega
 have h1:(k:Int) < ((opN.length:Nat):Int):=by show (k:Int) < ((27:Nat):Int);omega
 refine jC Tryz.func201 Tryz.ntmps201 (fun w0 β0 ext hβ=>?_)
 repeat (first|refine jS ?_|refine jD ?_|refine jB ?_)
 rw [e1]
 repeat (first|refine jS ?_|refine jD ?_|refine jB ?_)
 refine jre 12 (.v (.bool false)) rfl rfl (congrArg (fun b=>AVal.v (.bool b)) e2) ?_
 refine jre 3 (.slf (opN.map sv)) rfl rfl rfl ?_
 repeat (first|refine jS ?_|refine jD ?_|refine jB ?_|refine jI h0 h1 ?_)
 exact jR
theorem opKind_ok (k:Nat) (hk:k < 27):ACalls Tryz.prog 202 [iv k] [] (one (sv (at' opK (k:Int))) []):=by
 have h0:(0:Int)≤(k:Int):=by omega
 have h1:(k:Int) < ((opK.length:Nat):Int):=by show (k:Int) < ((27:Nat):Int);omega
 refine jC Tryz.func202 Tryz.ntmps202 (fun w0 β0 ext hβ=>?_)
 repeat (first|refine jS ?_|refine jD ?_|refine jB ?_)
 refine jre 5 (.slf (opK.map sv)) rfl rfl rfl ?_
 repeat (first|refine jS ?_|refine jD ?_|refine jB ?_|refine jI h0 h1 ?_)
 exact jR
def rAll (ls:List Bs):Bs→List Bs→List Int × Int
 | c::cs,w::ws=>cond (decide ((rop ls c w).2=0)) (((rop ls c w).1::(rAll ls cs ws).1),(rAll ls cs ws).2) ([],(rop ls c w).2)
 | _,_=>([],0)
def rinstrK (ls:List Bs) (op:Int) (kd:Bs) (ws:List Bs) (n:Int):Ins × Int :=
 cond (decide (ws.length=kd.length)) (cond (decide ((rAll ls kd ws).2=0)) (cond (decide (n≥1000)) (default,2) (⟨op,(rAll ls kd ws).1.getD 0 0,(rAll ls kd ws).1.getD 1 0,(rAll ls kd ws).1.getD 2 0⟩,0)) (default,(rAll ls kd ws).2)) (default,12)
def rinstr (ls:List Bs) (s:Bs) (n:Int):Ins × Int :=
 match rsplit 32 s with
 | []=>(default,10)
 | w::ws=>cond (decide (findOp w < 0)) (default,10) (rinstrK ls (findOp w) (at' opK (findOp w)) ws n)
theorem rAll_ok (ls:List Bs):∀ (kd:Bs) (ws:List Bs),ws.length=kd.length→(∀ q,q < kd.length→(rop ls (kd.getD q 0) (ws.getD q [])).2=0) →
  (rAll ls kd ws).2=0∧∀ q,q < kd.length→(rAll ls kd ws).1.getD q 0=(rop ls (kd.getD q 0) (ws.getD q [])).1
 | [],ws,_,_=>⟨by simp [rAll],fun q h=>absurd h (by simp)⟩
 | c::kd,[],h,_=>by simp at h
 | c::kd,w::ws,h,ha=>by
  have h0:=ha 0 (by simp)
  simp at h0
  obtain ⟨i1,i2⟩:=rAll_ok ls kd ws (by simpa using h) fun q hq=>by simpa using ha (q+1) (by simpa using hq)
  have e:rAll ls (c::kd) (w::ws)=((rop ls c w).1::(rAll ls kd ws).1,(rAll ls kd ws).2):=by simp [rAll,h0]
  rw [e]
  refine ⟨i1,fun q hq=>?_⟩
  cases q with
  | zero=>simp
  | succ q=>simpa using i2 q (by simpa using hq)
theorem rAll_len (ls:List Bs):∀ (kd:Bs) (ws:List Bs),(rAll ls kd ws).1.length≤kd.length
 | [],ws=>by simp [rAll]
 | c::kd,[]=>by simp [rAll]
 | c::kd,w::ws=>by
  have:=rAll_len ls kd ws
  simp only [rAll]
  cases decide ((rop ls c w).2=0)<;>simp<;>omega
theorem rAll_bad (ls:List Bs):∀ (kd:Bs) (ws:List Bs) (i:Nat),ws.length=kd.length→i < kd.length→(∀ q,q < i→(rop ls (kd.getD q 0) (ws.getD q [])).2=0)→(rop ls (kd.getD i 0) (ws.getD i [])).2≠0 →
  (rAll ls kd ws).2=(rop ls (kd.getD i 0) (ws.getD i [])).2
 | [],ws,i,_,hi,_,_=>by simp at hi
 | c::kd,[],i,h,_,_,_=>by simp at h
 | c::kd,w::ws,0,h,_,_,hb=>by
  simp at hb
  simp [rAll,hb]
 | c::kd,w::ws,i+1,h,hi,ha,hb=>by
  have h0:=ha 0 (by omega)
  simp at h0
  have e:rAll ls (c::kd) (w::ws)=((rop ls c w).1::(rAll ls kd ws).1,(rAll ls kd ws).2):=by simp [rAll,h0]
  rw [e]
  simpa using rAll_bad ls kd ws i (by simpa using h) (by simpa using hi) (fun q hq=>by simpa using ha (q+1) (by omega)) (by simpa using hb)
theorem spSt_len (c:UInt8) (s:Bs):∀ i,∀ x∈(spSt c s i).1,x.length≤s.length
 | 0,x,h=>by simp [spSt] at h
 | i+1,x,h=>by
  have ih:=spSt_len c s i
  unfold spSt at h
  cases hd:decide (s.getD i 0=c) with
  | false=>rw [hd] at h;exact ih x h
  | true =>
   rw [hd] at h
   rcases List.mem_append.1 h with h|h
   ·exact ih x h
   ·rw [List.mem_singleton.1 h,List.length_drop,List.length_take];omega
theorem rsplit_len (c:UInt8) (s:Bs):∀ x∈rsplit c s,x.length≤s.length:=fun x h=>by
 rcases List.mem_append.1 h with h|h
 ·exact spSt_len c s _ x h
 ·rw [List.mem_singleton.1 h,List.length_drop];omega
theorem opK_at (k:Nat) (hk:k < 27):at' opK (k:Int)=(at' opsT (k:Int)).2:=by
 have h1:k < opK.length:=hk
 have h2:k < opsT.length:=hk
 rw [at_nat opK k h1,at_nat opsT k h2]
 simp [opK]
theorem rinstr_ok (ls:List Bs) (s:Bs) (n:Int) (hs:s.length≤900000) (hls:ls.length≤1000000) (hl:∀ l∈ls,l.length≤1000000) :
  ACalls Tryz.prog 157 [.sl (ls.map sv),sv s,iv n] [] (one (.tup [encIns (rinstr ls s n).1,iv (rinstr ls s n).2]) []):=by
 have hsp:=rsplit_ok s 32 hs
 unfold rinstr
 cases hws:rsplit 32 s with
 | nil=>exact absurd hws (by unfold rsplit;simp)
 | cons w r =>
  rw [hws] at hsp
  simp only
  refine jC Tryz.func157 Tryz.ntmps157 (fun w0 β0 ext hβ=>?_)
  repeat (first|refine jS ?_|refine jD ?_|refine jB ?_|refine jV hsp ?_)
  refine jloopI (fun k:Nat=>k≤27∧∀ i,i < k→at' opN (i:Int)≠w) [0,1,2,6,8,9] (fun k=>[.sl (ls.map sv),sv s,iv n,.ptr 0 0,.sl ((w::r).map sv),.v (.int .i64 (k:Int))]) (fun _=>[.box 176 [iv 0,iv 0,iv 0,iv 0]]) (fun k=>27-k) 0 ⟨Nat.zero_le _,fun i h=>absurd h (by omega)⟩ rfl rfl (fun k hk=>?_)
  obtain ⟨hk,hno⟩:=hk
  by_cases hk2:k < 27
  ·have hnm:=opName_ok k hk2
   have e1:decide ((k:Int) < 27)=true:=decide_eq_true (by omega)
   have hw0:(0:Int) < (((w::r).length:Nat):Int):=by rw [List.length_cons];omega
   have key:((⟨(at' opN (k:Int)).toArray⟩:ByteArray).toList != (⟨w.toArray⟩:ByteArray).toList) = !decide (at' opN (k:Int)=w):=by rw [bne,str_eq]
   have hnx:=idx_next hk2 (by omega)
   unfold sv iv at hnm
   repeat (first|refine jS ?_|refine jD ?_|refine jB ?_)
   rw [e1]
   repeat (first|refine jS ?_|refine jD ?_|refine jB ?_|refine jV hnm ?_|refine jo rfl rfl (index_at rfl rfl rfl rfl rfl rfl rfl rfl (by decide) hw0) rfl rfl ?_)
   have key:=str_eq (at' opN (k:Int)) (at' (w::r) 0)
   have ew:at' (w::r) 0=w:=rfl
   rw [key,ew]
   cases hc:decide (at' opN (k:Int)=w) with
   | false =>
    have hc:=of_decide_eq_false hc
    repeat (first|refine jS ?_|refine jD ?_|refine jB ?_)
    refine jnextI (k+1) ⟨by omega,fun i hi=>?_⟩ ?_ rfl (by omega)
    ·by_cases hik:i=k
     ·subst hik;exact hc
     ·exact hno i (by omega)
    ·show some _=some _
     rw [hnx]
   | true =>
    have hc:=of_decide_eq_true hc
    have e27:((k:Int) == 27)=false:=by simp;omega
    repeat (first|refine jS ?_|refine jD ?_|refine jB ?_)
    rw [e27]
    repeat (first|refine jS ?_|refine jD ?_|refine jB ?_)
    have hkd:=opKind_ok k hk2
    obtain ⟨hk3,_⟩:=kinds_ok k hk2
    rw [←opK_at k hk2] at hk3
    have hf:findOp w=(k:Int):=by
     unfold findOp
     have hkl:k < opsT.length:=hk2
     have hkl2:k < opN.length:=hk2
     rw [List.findIdx?_eq_some_iff_getElem.2 ⟨hkl,by
      rw [at_nat opN k hkl2] at hc
      simpa [opN] using hc,fun j hj=>by
      have hjl:j < opN.length:=by show j < 27;omega
      have e2:=hno j hj
      rw [at_nat opN j hjl] at e2
      simpa [opN] using e2⟩]
    rw [hf,decide_eq_false (show ¬(k:Int) < 0 by omega)]
    simp only [cond_false]
    clear hno hf hc key ew hw0 e1
    generalize at' opK (k:Int)=kd at *
    unfold sv iv at hkd
    repeat (first|refine jS ?_|refine jD ?_|refine jB ?_|refine jV hkd ?_)
    have hwb:r.length≤1000000:=by
     have:=(spSt_le 32 s s.length).2
     have h2:=congrArg List.length hws
     unfold rsplit at h2
     simp at h2
     omega
    have hcnd:((((w::r).map sv).length:Int) != IntKind.i64.wrap (1+(ByteArray.size ⟨kd.toArray⟩:Int))) = !decide (r.length=kd.length):=by
     have e1:ByteArray.size ⟨kd.toArray⟩=kd.length:=rfl
     rw [e1,wrap_id (by omega) (by omega),Bool.eq_iff_iff]
     simp
     omega
    rw [hcnd]
    unfold rinstrK
    cases hb:decide (r.length=kd.length) with
    | false =>
     simp only [Bool.not_false,cond_false]
     repeat (first|refine jS ?_|refine jD ?_|refine jB ?_)
     exact jR
    | true =>
     have hlen:=of_decide_eq_true hb
     simp only [Bool.not_true,cond_true]
     repeat (first|refine jS ?_|refine jD ?_|refine jB ?_)
     let ok:Nat→Prop:=fun i=>i≤kd.length∧∀ q,q < i→(rop ls (kd.getD q 0) (r.getD q [])).2=0
     let vv:Nat→Nat→AVal:=fun q i=>iv (cond (decide (q < i)) (rop ls (kd.getD q 0) (r.getD q [])).1 0)
     refine jloopI ok [0,2,6,8,9,10,11,12] (fun i=>[.sl (ls.map sv),iv n,.ptr 0 0,.sl ((w::r).map sv),.v (.int .i64 (k:Int)),sv kd,.ptr 1 0,.v (.int .i64 (i:Int))])
      (fun i=>[.box 176 [iv 0,iv 0,iv 0,iv 0],.box 116 [vv 0 i,vv 1 i,vv 2 i]]) (fun i=>kd.length-i) 0 ⟨Nat.zero_le _,fun q hq=>absurd hq (by omega)⟩ rfl rfl (fun i hi=>?_)
     obtain ⟨hi,hok⟩:=hi
     have hkl:ByteArray.size ⟨kd.toArray⟩=kd.length:=rfl
     repeat (first|refine jS ?_|refine jD ?_|refine jB ?_)
     refine jc rfl rfl rfl (fun h=>?_) (fun h=>?_)
     ·have h:=of_decide_eq_true h
      have hik:i < kd.length:=by rw [hkl] at h;omega
      have hnx:=idx_next hik (by omega)
      have hnx2:IntKind.i64.wrap (1+(i:Int))=((i+1:Nat):Int):=by rw [Int.add_comm];exact hnx
      have hwd:at' (w::r) (IntKind.i64.wrap (1+(i:Int)))=r.getD i []:=by
       rw [hnx2];simp [at'];rfl
      obtain ⟨c,hc⟩:∃ c,kd[i]? = some c:=⟨_,List.getElem?_eq_getElem hik⟩
      have hcb:=str_at hc
      have hcd:kd.getD i 0=c:=by simp [List.getD,hc]
      have hl1:(0:Int)≤IntKind.i64.wrap (1+(i:Int)):=by rw [hnx2];omega
      have hl2:IntKind.i64.wrap (1+(i:Int)) < ((w::r).length:Int):=by rw [hnx2,List.length_cons];omega
      have hwl2:(at' (w::r) (IntKind.i64.wrap (1+(i:Int)))).length≤1000000:=by
       rw [hwd]
       have hir:i < r.length:=by omega
       have hm:r.getD i []∈rsplit 32 s:=by rw [hws];refine List.mem_cons_of_mem _ ?_;simp [List.getD,hir]
       exact Nat.le_trans (rsplit_len 32 s _ hm) (by omega)
      have hop:=rop_ok ls c (at' (w::r) (IntKind.i64.wrap (1+(i:Int)))) hwl2 hls hl
      have hrd:rop ls (kd.getD i 0) (r.getD i [])=rop ls c (at' (w::r) (IntKind.i64.wrap (1+(i:Int)))):=by rw [hwd,hcd]
      unfold sv at hop
      repeat (first|refine jS ?_|refine jD ?_|refine jB ?_|refine jo rfl rfl (index_str rfl rfl rfl rfl (Int.natCast_nonneg i) hcb) rfl rfl ?_|refine jI hl1 hl2 ?_|refine jV hop ?_)
      generalize rop ls c (at' (w::r) (IntKind.i64.wrap (1+(i:Int))))=p at *
      obtain ⟨p1,p2⟩:=p
      by_cases hp:p2=0
      ·subst hp
       have hok':ok (i+1):=⟨by omega,fun q hq=>by
        by_cases hqi:q=i
        ·subst hqi;rw [hrd]
        ·exact hok q (by omega)⟩
       have hi3:i=0∨i=1∨i=2:=by omega
       rcases hi3 with rfl|rfl|rfl
       all_goals (
        repeat (first|refine jS ?_|refine jD ?_|refine jB ?_|refine jo rfl rfl (index_arr rfl rfl rfl rfl rfl (by omega) (by omega)) rfl rfl ?_)
       )
       all_goals refine jnextI (_+1) hok' ?_ ?_ ?_
       all_goals first|omega|rfl|(show _=_;simp only [vv,hrd];rfl)
      ·have hbad:=rAll_bad ls kd r i hlen hik hok (by rw [hrd];exact hp)
       rw [hrd] at hbad
       have hp':(p2 != 0)=true:=by simpa using hp
       rw [hbad,decide_eq_false hp]
       simp only [cond_false]
       simp only [hp']
       repeat (first|refine jS ?_|refine jD ?_|refine jB ?_)
       exact jR
     ·have h:=of_decide_eq_false h
      have hi':i=kd.length:=by rw [hkl] at h;omega
      subst hi'
      obtain ⟨k1,k2⟩:=rAll_ok ls kd r hlen hok
      have hq:∀ q,(rAll ls kd r).1.getD q 0=cond (decide (q < kd.length)) (rop ls (kd.getD q 0) (r.getD q [])).1 0:=by
       intro q
       by_cases hql:q < kd.length
       ·rw [k2 q hql,decide_eq_true hql];rfl
       ·rw [decide_eq_false hql]
        have:=rAll_len ls kd r
        simp [List.getD,List.getElem?_eq_none (show (rAll ls kd r).1.length≤q by omega)]
      rw [k1,hq 0,hq 1,hq 2]
      simp only [decide_true,cond_true]
      repeat (first|refine jS ?_|refine jD ?_|refine jB ?_)
      cases hn:decide (n≥1000) with
      | true =>
       repeat (first|refine jS ?_|refine jD ?_|refine jB ?_)
       exact jR
      | false =>
       repeat (first|refine jS ?_|refine jD ?_|refine jB ?_|refine jo rfl rfl (index_arr rfl rfl rfl rfl rfl (by omega) (by omega)) rfl rfl ?_)
       exact jR
  ·have hk27:k=27:=by omega
   subst hk27
   have hf:findOp w = -1:=by
    unfold findOp
    rw [List.findIdx?_eq_none_iff.2 fun p hp=>by
     obtain ⟨i,hi,rfl⟩:=List.getElem_of_mem hp
     have hi':i < 27:=hi
     have e2:=hno i hi'
     have hl:i < opN.length:=hi'
     rw [at_nat opN i hl] at e2
     simpa [opN] using e2]
   rw [hf]
   repeat (first|refine jS ?_|refine jD ?_|refine jB ?_)
   exact jR
end Go.AL
end
section
set_option maxRecDepth 100000
namespace Go.AL
open Go Go.Proofs
attribute [local irreducible] J
def rpSt (ls:List Bs) (k:Nat):List Ins:=(ls.take k).foldl (fun cd l=>cond (rlab l) cd (cd++[(rinstr ls l cd.length).1])) []
def rpE (ls:List Bs) (k:Nat):Int:=cond (rlab (ls.getD k [])) (cond (rname (ls.getD k []).dropLast) (cond ((ls.take k).any fun l=>decide (l=ls.getD k [])) 11 0) 12) (rinstr ls (ls.getD k []) (rpSt ls k).length).2
def rlines (s:Bs):List Bs:=(rsplit 10 s).dropLast
def rparse (s : Bs) : List Ins × Int × Int :=
  cond (decide (s.length > 40000)) ([], 0, 2)
    (match bad1 (rpE (rlines s)) (rlines s).length with
     | some k => ([], (k : Int) + 1, rpE (rlines s) k)
     | none => cond (decide ((rsplit 10 s).getLast? = some [])) (rpSt (rlines s) (rlines s).length, 0, 0) ([], ((rsplit 10 s).length : Int), 12))
theorem rpSt_succ {ls:List Bs} {k:Nat} (h:k < ls.length):rpSt ls (k+1)=cond (rlab ls[k]) (rpSt ls k) (rpSt ls k++[(rinstr ls ls[k] (rpSt ls k).length).1]):=by
 unfold rpSt
 rw [List.take_succ_eq_append_getElem h,List.foldl_append];rfl
theorem rpSt_le (ls:List Bs):∀ k,k≤ls.length→(rpSt ls k).length≤k
 | 0,_=>Nat.le_refl _
 | k+1,hk=>by
  have ih:=rpSt_le ls k (by omega)
  rw [rpSt_succ (show k < ls.length by omega)]
  cases rlab ls[k]<;>simp<;>omega
theorem rlab_pos {s:Bs} (h:rlab s=true):0 < s.length:=by
 cases s with
 | nil=>simp [rlab] at h
 | cons a t=>simp
theorem rparse_ok (s:Bs) (hs:s.length≤900000):ACalls Tryz.prog 110 [sv s] [] (one (.tup [encIs (rparse s).1,iv (rparse s).2.1,iv (rparse s).2.2]) []):=by
 have hsp:=rsplit_ok s 10 hs
 unfold rparse
 have hsz:((ByteArray.size ⟨s.toArray⟩:Int) > 40000)=(s.length > 40000):=by
  rw [show ByteArray.size ⟨s.toArray⟩=s.length from rfl];apply propext;omega
 by_cases h4:s.length > 40000
 ·rw [decide_eq_true h4]
  have hd:decide ((ByteArray.size ⟨s.toArray⟩:Int) > 40000)=true:=decide_eq_true (hsz ▸ h4)
  refine jC Tryz.func110 Tryz.ntmps110 (fun w0 β0 ext hβ=>?_)
  repeat (first|refine jS ?_|refine jD ?_|refine jB ?_)
  rw [hd]
  repeat (first|refine jS ?_|refine jD ?_|refine jB ?_)
  exact jR
 ·rw [decide_eq_false h4]
  have hd:decide ((ByteArray.size ⟨s.toArray⟩:Int) > 40000)=false:=decide_eq_false (hsz ▸ h4)
  have hall:(rsplit 10 s).length≤900001:=by
   have:=(spSt_le 10 s s.length).2
   unfold rsplit
   simp
   omega
  have hpos:0 < (rsplit 10 s).length:=by unfold rsplit;simp
  have hlen:=rsplit_len 10 s
  have hcut:IntKind.i64.wrap ((((rsplit 10 s).map sv).length:Int)-1)=((min (rsplit 10 s).length ((rsplit 10 s).length-1):Nat):Int):=by
   rw [List.length_map,wrap_id (by omega) (by omega)];omega
  have hdl:(rsplit 10 s).take ((rsplit 10 s).length-1)=rlines s:=by
   unfold rlines;rw [List.dropLast_eq_take]
  simp only [cond_false]
  refine jC Tryz.func110 Tryz.ntmps110 (fun w0 β0 ext hβ=>?_)
  repeat (first|refine jS ?_|refine jD ?_|refine jV hsp ?_)
  rw [hd]
  repeat (first|refine jS ?_|refine jD ?_|refine jV hsp ?_)
  refine jo rfl rfl (cut_take ((rsplit 10 s).length-1) rfl rfl rfl hcut rfl rfl rfl (fun _=>⟨rfl,rfl⟩)) rfl rfl ?_
  rw [hdl]
  repeat (first|refine jS ?_|refine jD ?_)
  refine jbo rfl rfl rfl rfl rfl rfl rfl rfl ?_
  repeat (first|refine jS ?_|refine jD ?_|refine jB ?_)
  have hll:(rlines s).length≤900000:=by unfold rlines;rw [List.length_dropLast];omega
  have hlm:∀ l∈rlines s,l.length≤900000:=fun l hm=>Nat.le_trans (hlen l (List.dropLast_subset _ hm)) hs
  have hend:rlines s=(rsplit 10 s).dropLast:=rfl
  generalize rlines s=ls at *
  refine jloop 1 (fun k:Nat=>k≤ls.length∧∀ q,q < k→rpE ls q=0) [5,6,7,24,25,26] (fun k=>[.sl ((rsplit 10 s).map sv),.sl (ls.map sv),.arr 0 ((rpSt ls k).length+1),.sl (ls.map sv),.v (.int .i64 ((ls.map sv).length:Int)),.v (.int .i64 (k:Int))])
   (fun k=>[.arr ((rpSt ls k).length+1) 176 ty176.size ((rpSt ls k).map encIns)]) (fun k=>ls.length-k) 0 (by rw [hβ];decide) ⟨Nat.zero_le _,fun q h=>absurd h (by omega)⟩ rfl rfl (fun k hk=>?_)
  obtain ⟨hk,hok⟩:=hk
  have hcd:=rpSt_le ls k hk
  repeat (first|refine jS ?_|refine jD ?_|refine jB ?_)
  refine jc rfl rfl rfl (fun h=>?_) (fun h=>?_)
  ·have h:=of_decide_eq_true h
   rw [List.length_map] at h
   have hk2:k < ls.length:=by omega
   have hat:=at_nat ls k hk2
   have hgd:ls.getD k []=at' ls (k:Int):=by rw [hat];simp [List.getD,hk2]
   have hl9:(at' ls (k:Int)).length≤900000:=by rw [hat];exact hlm _ (List.getElem_mem hk2)
   have hlab:=rlab_ok (at' ls (k:Int)) (by omega)
   have hst:=rpSt_succ hk2
   rw [←hat] at hst
   have hnx:=idx_next hk2 (by omega)
   have hw1:IntKind.i64.wrap ((k:Int)+1)=(k:Int)+1:=wrap_id (by omega) (by omega)
   have hE:rpE ls k=cond (rlab (at' ls (k:Int))) (cond (rname (at' ls (k:Int)).dropLast) (cond ((ls.take k).any fun l=>decide (l=at' ls (k:Int))) 11 0) 12) (rinstr ls (at' ls (k:Int)) (rpSt ls k).length).2:=by
    unfold rpE;rw [hgd]
   unfold sv bv at hlab
   cases hr:rlab (at' ls (k:Int)) with
   | false =>
    rw [hr] at hlab hst hE
    simp only [cond_false] at hst hE
    have hin:ACalls Tryz.prog 157 [.sl (ls.map sv),.v (S (at' ls (k:Int))),.v (.int .i64 (((rpSt ls k).map encIns).length:Int))] [] (one (.tup [encIns (rinstr ls (at' ls (k:Int)) (rpSt ls k).length).1,iv (rinstr ls (at' ls (k:Int)) (rpSt ls k).length).2]) []):=by
     rw [List.length_map (f:=encIns)]
     exact rinstr_ok ls (at' ls (k:Int)) ((rpSt ls k).length:Int) hl9 (by omega) (fun l hm=>by have:=hlm l hm;omega)
    have hnext:rpE ls k=0→∀ q,q < k+1→rpE ls q=0:=fun h0 q hq=>by
     by_cases hqk:q=k
     ·subst hqk;exact h0
     ·exact hok q (by omega)
    generalize rinstr ls (at' ls (k:Int)) (rpSt ls k).length=ip at *
    obtain ⟨ins,bad⟩:=ip
    simp only at hst hE hin
    repeat (first|refine jS ?_|refine jD ?_|refine jB ?_|refine jI (Int.natCast_nonneg k) h ?_|refine jV hlab ?_|refine jo rfl rfl (len_arr rfl rfl rfl rfl) rfl rfl ?_|refine jV hin ?_)
    by_cases hb0:bad=0
    ·subst hb0
     repeat (first|refine jo rfl rfl (append_enc (enc:=encIns) (l:=rpSt ls k) ins rfl rfl rfl rfl rfl rfl rfl rfl rfl rfl (fun _=>⟨rfl,rfl⟩) rfl (by omega) rfl rfl) rfl rfl ?_|refine jS ?_|refine jD ?_|refine jB ?_)
     have el:(rpSt ls k).length+1=(rpSt ls (k+1)).length:=by rw [hst];simp
     refine jnext (k+1) ⟨by omega,hnext hE⟩ (by omega) rfl rfl rfl ?_ ?_
     ·rw [hnx,←el]
     ·rw [hst];simp
    ·have e1:(bad != 0)=true:=by simpa using hb0
     rw [e1]
     rw [bad1_some hok (by rw [hE];exact hb0) hk2]
     repeat (first|refine jS ?_|refine jD ?_|refine jB ?_)
     rw [hw1]
     dsimp only
     rw [hE]
     exact jR
   | true =>
    rw [hr] at hlab hst hE
    simp only [cond_true] at hst hE
    have hne:=rlab_pos hr
    have hnm:=rname_ok (at' ls (k:Int)).dropLast (by rw [List.length_dropLast];omega)
    have hsz2:ByteArray.size ⟨(at' ls (k:Int)).toArray⟩=(at' ls (k:Int)).length:=rfl
    have hw:IntKind.i64.wrap (((at' ls (k:Int)).length:Int)-1)=(((at' ls (k:Int)).length-1:Nat):Int):=by
     rw [wrap_id (by omega) (by omega)];omega
    have hdr:(at' ls (k:Int)).take ((at' ls (k:Int)).length-1)=(at' ls (k:Int)).dropLast:=by rw [List.dropLast_eq_take]
    unfold sv bv at hnm
    repeat (first|refine jS ?_|refine jD ?_|refine jB ?_|refine jI (Int.natCast_nonneg k) h ?_|refine jV hlab ?_)
    rw [hsz2,hw]
    refine jo rfl rfl (cutH ((at' ls (k:Int)).length-1) rfl rfl rfl rfl rfl (by omega)) rfl rfl ?_
    rw [hdr]
    cases hn:rname (at' ls (k:Int)).dropLast with
    | false =>
     rw [hn] at hnm hE
     simp only [cond_false] at hE
     rw [bad1_some hok (by rw [hE];decide) hk2]
     repeat (first|refine jS ?_|refine jD ?_|refine jB ?_|refine jV hnm ?_)
     rw [hw1]
     dsimp only
     rw [hE]
     exact jR
    | true =>
     rw [hn] at hnm hE
     simp only [cond_true] at hE
     repeat (first|refine jS ?_|refine jD ?_|refine jB ?_|refine jV hnm ?_)
     refine jloopI (fun j:Nat=>j≤k∧((ls.take k).any fun l=>decide (l=at' ls (k:Int)))=(((ls.take k).drop j).any fun l=>decide (l=at' ls (k:Int)))) [5,6,7,24,25,26,8,9,10] (fun j=>[.sl ((rsplit 10 s).map sv),.sl (ls.map sv),.arr 0 ((rpSt ls k).length+1),.sl (ls.map sv),.v (.int .i64 ((ls.map sv).length:Int)),.v (.int .i64 (k:Int)),.v (.int .i64 (k:Int)),.v (S (at' ls (k:Int))),.v (.int .i64 (j:Int))])
      (fun _=>[.arr ((rpSt ls k).length+1) 176 ty176.size ((rpSt ls k).map encIns)]) (fun j=>k-j) 0 ⟨Nat.zero_le _,rfl⟩ rfl rfl (fun j hj=>?_)
     obtain ⟨hj,hjs⟩:=hj
     repeat (first|refine jS ?_|refine jD ?_|refine jB ?_)
     refine jc rfl rfl rfl (fun h2=>?_) (fun h2=>?_)
     ·have h2:=of_decide_eq_true h2
      have hj2:j < ls.length:=by omega
      have h2':j < k:=by omega
      have hat2:=at_nat ls j hj2
      repeat (first|refine jS ?_|refine jD ?_|refine jB ?_|refine jo rfl rfl (index_at rfl rfl rfl rfl rfl rfl rfl rfl (Int.natCast_nonneg j) (show (j:Int) < ls.length by omega)) rfl rfl ?_)
      rw [str_eq]
      have hjt:j < (ls.take k).length:=by rw [List.length_take];omega
      have hjd:((ls.take k).drop j).any (fun l=>decide (l=at' ls (k:Int)))=(decide (at' ls (j:Int)=at' ls (k:Int))||((ls.take k).drop (j+1)).any (fun l=>decide (l=at' ls (k:Int)))):=by
       rw [List.drop_eq_getElem_cons hjt,List.any_cons,List.getElem_take,←hat2]
      rw [hjd] at hjs
      cases hc:decide (at' ls (j:Int)=at' ls (k:Int)) with
      | true =>
       rw [hjs,hc] at hE
       simp only [Bool.true_or,cond_true] at hE
       rw [bad1_some hok (by rw [hE];decide) hk2]
       repeat (first|refine jS ?_|refine jD ?_|refine jB ?_)
       rw [hw1]
       dsimp only
       rw [hE]
       exact jR
      | false =>
       rw [hc,Bool.false_or] at hjs
       have hnj:=idx_next h2' (by omega)
       repeat (first|refine jS ?_|refine jD ?_|refine jB ?_)
       refine jnextI (j+1) ⟨by omega,hjs⟩ ?_ rfl (by omega)
       show some _=some _
       rw [hnj]
     ·have h2:=of_decide_eq_false h2
      have hj2:j=k:=by omega
      rw [hj2,List.drop_of_length_le (by rw [List.length_take];omega)] at hjs
      rw [hjs] at hE
      simp only [List.any_nil,cond_false] at hE
      have hnext:∀ q,q < k+1→rpE ls q=0:=fun q hq=>by
       by_cases hqk:q=k
       ·subst hqk;exact hE
       ·exact hok q (by omega)
      repeat (first|refine jS ?_|refine jD ?_|refine jB ?_)
      refine jnext (k+1) ⟨by omega,hnext⟩ (by omega) rfl rfl rfl ?_ ?_
      ·rw [hnx,hst]
      ·rw [hst]
  ·have h:=of_decide_eq_false h
   rw [List.length_map] at h
   have hk2:k=ls.length:=by omega
   subst hk2
   rw [bad1_none hok]
   have hw2:IntKind.i64.wrap ((((rsplit 10 s).map sv).length:Int)-1)=(((rsplit 10 s).length-1:Nat):Int):=by
    rw [List.length_map,wrap_id (by omega) (by omega)];omega
   repeat (first|refine jS ?_|refine jD ?_|refine jB ?_)
   rw [hw2]
   repeat (first|refine jS ?_|refine jD ?_|refine jB ?_|refine jo rfl rfl (index_at rfl rfl rfl rfl rfl rfl rfl rfl (Int.natCast_nonneg _) (show (((rsplit 10 s).length-1:Nat):Int) < (rsplit 10 s).length by omega)) rfl rfl ?_)
   have key:((⟨(at' (rsplit 10 s) (((rsplit 10 s).length-1:Nat):Int)).toArray⟩:ByteArray).toList == ({data:=#[]}:ByteArray).toList)=decide (at' (rsplit 10 s) (((rsplit 10 s).length-1:Nat):Int)=[]):=str_eq _ []
   have hlast:(rsplit 10 s).getLast? = some (at' (rsplit 10 s) (((rsplit 10 s).length-1:Nat):Int)):=by
    rw [at_nat _ _ (show (rsplit 10 s).length-1 < (rsplit 10 s).length by omega),List.getLast?_eq_getElem?,List.getElem?_eq_getElem]
   have hq:decide ((rsplit 10 s).getLast? = some [])=decide (at' (rsplit 10 s) (((rsplit 10 s).length-1:Nat):Int)=[]):=by
    rw [hlast];simp
   rw [key,hq]
   cases hc:decide (at' (rsplit 10 s) (((rsplit 10 s).length-1:Nat):Int)=[]) with
   | false =>
    repeat (first|refine jS ?_|refine jD ?_|refine jB ?_)
    rw [List.length_map]
    exact jR
   | true =>
    repeat (first|refine jS ?_|refine jD ?_|refine jB ?_)
    exact jr rfl (fin_arr rfl rfl rfl rfl) rfl rfl
end Go.AL
end
section
set_option maxRecDepth 100000
namespace Go.AL
open Go Go.Proofs
attribute [local irreducible] J
theorem same_ok (l:List Ins) (hl:l.length≤1000000):ACalls Tryz.prog 71 [encIs l,encIs l] [] (one (bv true) []):=by
 unfold encIs
 refine jC Tryz.func71 Tryz.ntmps71 (fun w0 β0 ext hβ=>?_)
 repeat (first|refine jS ?_|refine jD ?_|refine jB ?_)
 refine jc rfl rfl rfl (fun h=>absurd h (by simp)) (fun h=>?_)
 repeat (first|refine jS ?_|refine jD ?_|refine jB ?_)
 refine jloopI (fun i:Nat=>i≤l.length) [0,1,12,13] (fun i=>[.sl (l.map encIns),.sl (l.map encIns),.v (.int .i64 (l.map encIns).length),.v (.int .i64 i)]) (fun _=>[]) (fun i=>l.length-i) 0 (by omega) rfl rfl (fun i hi=>?_)
 repeat (first|refine jS ?_|refine jD ?_|refine jB ?_)
 refine jc rfl rfl rfl (fun h=>?_) (fun h=>?_)
 ·have h:=of_decide_eq_true h
  rw [List.length_map] at h
  have hi1:i < l.length:=by omega
  have w1:=idx_next hi1 (by omega)
  have hx:encIns (at' l (i:Int)) = .agg (intsA [(at' l (i:Int)).op,(at' l (i:Int)).a,(at' l (i:Int)).b,(at' l (i:Int)).c]):=rfl
  repeat (first|refine jS ?_|refine jD ?_|refine jB ?_|refine jI (Int.natCast_nonneg i) h ?_|refine jo rfl rfl (eq_ints (xs:=[(at' l (i:Int)).op,(at' l (i:Int)).a,(at' l (i:Int)).b,(at' l (i:Int)).c]) (ys:=[(at' l (i:Int)).op,(at' l (i:Int)).a,(at' l (i:Int)).b,(at' l (i:Int)).c]) (Or.inr rfl) rfl rfl rfl rfl rfl rfl (by kernel_rfl) (by kernel_rfl)) rfl rfl ?_)
  refine jc rfl rfl rfl (fun h=>absurd h (by simp)) (fun h=>?_)
  repeat (first|refine jS ?_|refine jD ?_|refine jB ?_)
  refine jnextI (i+1) (by omega) ?_ rfl (by omega)
  show some _=some _
  rw [w1]
 ·repeat (first|refine jS ?_|refine jD ?_|refine jB ?_)
  exact jR
deriving instance DecidableEq for Ins
end Go.AL
end
section
namespace Go.AL
open Go Go.Proofs
def consH (p:Bs):List Bs→List Bs
 | []=>[p]
 | h::t=>(p++h)::t
def cuts (c:UInt8):Bs→List Bs
 | []=>[[]]
 | b::r=>if b=c then []::cuts c r else consH [b] (cuts c r)
theorem consH_ne (p:Bs) (l:List Bs):consH p l≠[]:=by cases l<;>simp [consH]
theorem cuts_ne (c : UInt8) (s : Bs) : cuts c s ≠ [] := by
  cases s with
  | nil => simp [cuts]
  | cons b r => unfold cuts; split; · simp
                · exact consH_ne _ _
theorem consH_nil {l:List Bs} (h:l≠[]):consH [] l=l:=by
 cases l with
 | nil=>exact absurd rfl h
 | cons a t=>rfl
theorem consH_consH (p q:Bs) (l:List Bs):consH p (consH q l)=consH (p++q) l:=by
 cases l<;>simp [consH]
theorem rsplit_inv (c:UInt8) (s:Bs):∀ i,i≤s.length→cuts c s=(spSt c s i).1++consH ((s.take i).drop (spSt c s i).2) (cuts c (s.drop i))
 | 0,_=>by simp [spSt,consH_nil (cuts_ne c s)]
 | i+1,h=>by
  have ih:=rsplit_inv c s i (by omega)
  have hi:i < s.length:=by omega
  have hle:=(spSt_le c s i).1
  have hg:s.getD i 0=s[i]:=by simp [List.getD,hi]
  rw [List.drop_eq_getElem_cons hi] at ih
  rw [ih,show spSt c s (i+1)=cond (decide (s.getD i 0=c)) ((spSt c s i).1++[(s.take i).drop (spSt c s i).2],i+1) (spSt c s i) from rfl]
  rw [hg]
  rw [cuts]
  by_cases hb:s[i]=c
  ·rw [if_pos hb,decide_eq_true hb]
   simp only [cond_true]
   rw [show (s.take (i+1)).drop (i+1)=[] from by rw [List.drop_eq_nil_iff];rw [List.length_take];omega,consH_nil (cuts_ne _ _)]
   simp [consH]
  ·rw [if_neg hb,decide_eq_false hb]
   simp only [cond_false]
   rw [consH_consH,List.take_succ_eq_append_getElem hi,List.drop_append_of_le_length (by rw [List.length_take];omega)]
theorem rsplit_eq (c:UInt8) (s:Bs):rsplit c s=cuts c s:=by
 have:=rsplit_inv c s s.length (Nat.le_refl _)
 rw [this]
 simp [rsplit,cuts,consH]
theorem index1_cons (b c:UInt8) (l:Bs):Lib.index (b::l) [c]=if b=c then 0 else if Lib.index l [c] = -1 then -1 else Lib.index l [c]+1:=by
 rw [Lib.index]
 by_cases h:b=c
 ·simp [h,List.isPrefixOf]
 ·have:¬c=b:=fun e=>h e.symm
  simp [h,this,List.isPrefixOf]
theorem splitK_cons (b c:UInt8) (l:Bs) (h:¬b=c) (k:Nat):Lib.splitK [c] 0 k (b::l)=consH [b] (Lib.splitK [c] 0 k l):=by
 cases k with
 | zero=>rfl
 | succ k =>
  have hge:=Lib.index_ge l [c]
  rw [Lib.splitK,Lib.splitK,index1_cons,if_neg h]
  by_cases h1:Lib.index l [c] = -1
  ·simp [h1,consH]
  ·have e1:(Lib.index l [c]+1 == -1)=false:=by simp;omega
   have e2:(Lib.index l [c] == -1)=false:=by simp [h1]
   have e3:(Lib.index l [c]+1).toNat=(Lib.index l [c]).toNat+1:=by omega
   rw [if_neg h1,e1,e2,e3]
   simp [consH]
theorem splitK_eq (c:UInt8):∀ (s:Bs) (k:Nat),s.count c≤k→Lib.splitK [c] 0 k s=cuts c s
 | [],k,_=>by
  cases k with
  | zero=>rfl
  | succ k=>simp [Lib.splitK,Lib.index,cuts]
 | b::l,k,h=>by
  rw [cuts]
  by_cases hb:b=c
  ·subst hb
   rw [List.count_cons_self] at h
   rw [if_pos rfl]
   cases k with
   | zero=>omega
   | succ k =>
    rw [←splitK_eq b l k (by omega),Lib.splitK,index1_cons,if_pos rfl]
    simp
  ·rw [if_neg hb,splitK_cons b c l hb,splitK_eq c l k (by rw [List.count_cons_of_ne (by simpa using hb)] at h;exact h)]
theorem countFrom_ge (c:UInt8):∀ (n:Nat) (s:Bs),s.length≤n→∀ f,n < f→s.count c≤Lib.countFrom [c] f s
 | n,[],_,f,_=>by simp
 | 0,b::l,h,f,_=>by simp at h
 | n+1,b::l,h,f,hf=>by
  cases f with
  | zero=>omega
  | succ f =>
   rw [Lib.countFrom,index1_cons]
   have hl:l.length≤n:=by simpa using h
   by_cases hb:b=c
   ·subst hb
    rw [if_pos rfl,List.count_cons_self]
    have:=countFrom_ge b n l hl f (by omega)
    simp
    omega
   ·rw [if_neg hb,List.count_cons_of_ne (by simpa using hb)]
    have ih:=countFrom_ge c n l hl (f+1) (by omega)
    rw [Lib.countFrom] at ih
    have hge:=Lib.index_ge l [c]
    by_cases h1:Lib.index l [c] = -1
    ·simpa [h1] using ih
    ·have e1:(Lib.index l [c]+1 == -1)=false:=by simp;omega
     have e2:(Lib.index l [c] == -1)=false:=by simp [h1]
     have e3:(Lib.index l [c]+1).toNat=(Lib.index l [c]).toNat+1:=by omega
     rw [e2] at ih
     rw [if_neg h1,e1,e3]
     simpa using ih
theorem split_eq (c:UInt8) (s:Bs):Lib.split s [c]=cuts c s :=
 splitK_eq c s _ (countFrom_ge c s.length s (Nat.le_refl _) _ (by omega))
end Go.AL
end
section
namespace Go.AL
open Go Go.Proofs
theorem notN_azn (c:UInt8):notN c.toNat = !azn c:=by
 have:∀ x:Fin 256,notN x.val = !(!((decide ((x.val:Int) < 97)||decide ((x.val:Int) > 122))&&(decide ((x.val:Int) < 48)||decide ((x.val:Int) > 57)))):=by decide +kernel
 exact this ⟨c.toNat,c.toNat_lt⟩
theorem notN_high (r:Nat) (h:128≤r):notN r=true:=by
 unfold notN inn
 have e1:decide ((r:Int)≤122)=false:=by simp;omega
 have e2:decide ((r:Int)≤57)=false:=by simp;omega
 simp [e1,e2]
theorem azn_low {c:UInt8} (h:azn c=true):c.toNat < 128:=by
 unfold azn at h
 simp at h
 omega
theorem get_at (s:Bs) (i:Nat) (h:i < s.length):((⟨s.toArray⟩:ByteArray)[i]'h)=s[i]:=rfl
theorem idx_azn (s:Bs):∀ (f pos:Nat),s.length-pos≤f→pos≤s.length→decide (0≤Lib.idxFuncFrom notN true ⟨s.toArray⟩ f pos) = !((s.drop pos).all azn)
 | 0,pos,h,hp=>by
  rw [List.drop_of_length_le (by omega)];rfl
 | f+1,pos,h,hp=>by
  unfold Lib.idxFuncFrom
  have hsz:(⟨s.toArray⟩:ByteArray).size=s.length:=rfl
  by_cases hlt:pos < s.length
  ·rw [if_pos (by rw [hsz];exact hlt),List.drop_eq_getElem_cons hlt,List.all_cons]
   by_cases ha:s[pos].toNat < 128
   ·have hd:=decode_ascii ⟨s.toArray⟩ pos (by rw [hsz];exact hlt) (by rw [get_at s pos hlt];exact ha)
    rw [hd,get_at s pos hlt]
    simp only
    rw [notN_azn]
    cases hz:azn s[pos]
    ·simp
    ·have ih:=idx_azn s f (pos+1) (by omega) (by omega)
     simp only [Bool.not_true,Bool.true_and]
     rw [←ih]
     simp
   ·have hd:=decode_high ⟨s.toArray⟩ pos (by rw [hsz];exact hlt) (by rw [get_at s pos hlt];omega)
    rw [notN_high _ hd.1]
    have:azn s[pos]=false:=by
     cases hz:azn s[pos]
     ·rfl
     ·exact absurd (azn_low hz) ha
    rw [this]
    simp
  ·rw [if_neg (by rw [hsz];exact hlt),List.drop_of_length_le (by omega)];rfl
theorem name_eq (s:Bs):nameP s=rname s:=by
 cases s with
 | nil=>rfl
 | cons c r =>
  show (inn (r.length+1:Nat) 1 12&&(inn c.toNat 97 122 && !decide (0≤Lib.idxFunc notN true ⟨(c::r).toArray⟩)))=(decide (r.length+1≤12) && !decide ((c.toNat:Int) < 97) && !decide ((c.toNat:Int) > 122)&&(c::r).all azn)
  have:=idx_azn (c::r) (c::r).length 0 (by omega) (by omega)
  rw [List.drop_zero] at this
  have e:Lib.idxFunc notN true ⟨(c::r).toArray⟩=Lib.idxFuncFrom notN true ⟨(c::r).toArray⟩ (c::r).length 0:=rfl
  rw [e,this,Bool.not_not]
  generalize (c::r).all azn=z
  unfold inn
  rw [Bool.eq_iff_iff]
  cases z
  ·simp
  ·simp
   omega
end Go.AL
end
section
namespace Go.AL
open Go Go.Proofs
def dgt (c:UInt8):Bool:=decide (48≤c.toNat)&&decide (c.toNat≤57)
def dvA (a:Nat) (l:Bs):Nat:=l.foldl (fun n c=>n*10+(c.toNat-48)) a
theorem dvA_ge (l:Bs):∀ a,a≤dvA a l:=by
 induction l with
 | nil=>intro a;exact Nat.le_refl _
 | cons c r ih=>intro a;have:=ih (a*10+(c.toNat-48));simp only [dvA,List.foldl_cons] at this ⊢;omega
theorem dvA_snoc (a:Nat) (l:Bs) (c:UInt8):dvA a (l++[c])=dvA a l*10+(c.toNat-48):=by simp [dvA]
theorem parse_dv:∀ (l:Bs) (a:Nat),l.all dgt=true→dvA a l < 10000000000000000000→Lib.parseUint10 a l = .ok (dvA a l)
 | [],a,_,_=>rfl
 | c::r,a,h,hb=>by
  rw [List.all_cons,Bool.and_eq_true] at h
  have hc:=h.1
  unfold dgt at hc
  simp at hc
  have hge:=dvA_ge r (a*10+(c.toNat-48))
  have e:dvA a (c::r)=dvA (a*10+(c.toNat-48)) r:=rfl
  rw [e] at hb ⊢
  rw [Lib.parseUint10,if_pos hc,if_neg (by omega),if_neg (by omega)]
  exact parse_dv r _ h.2 hb
theorem dgt_of (u:Nat) (h:u < 10):dgt (UInt8.ofNat (48+u))=true∧(UInt8.ofNat (48+u)).toNat=48+u:=by
 have e:(UInt8.ofNat (48+u)).toNat=48+u:=by rw [UInt8.toNat_ofNat'];omega
 refine ⟨?_,e⟩
 unfold dgt
 rw [e]
 simp
 omega
theorem dd_all:∀ u,(Lib.decDigits u).all dgt=true:=by
 intro u
 induction u using Nat.strongRecOn with
 | _ u ih =>
  rw [Lib.decDigits]
  split
  ·rename_i h
   simp only [List.all_cons,List.all_nil,(dgt_of u h).1,Bool.and_self]
  ·rename_i h
   rw [List.all_append,ih (u / 10) (by omega)]
   simp only [List.all_cons,List.all_nil,(dgt_of (u % 10) (by omega)).1,Bool.and_self]
theorem dd_val:∀ u,dvA 0 (Lib.decDigits u)=u:=by
 intro u
 induction u using Nat.strongRecOn with
 | _ u ih =>
  rw [Lib.decDigits]
  split
  ·rename_i h
   show 0*10+((UInt8.ofNat (48+u)).toNat-48)=u
   rw [(dgt_of u h).2]
   omega
  ·rename_i h
   rw [dvA_snoc,ih (u / 10) (by omega),(dgt_of (u % 10) (by omega)).2]
   omega
theorem dd_ne (u:Nat):Lib.decDigits u≠[]:=by
 rw [Lib.decDigits];split<;>simp
theorem dgt_back {c:UInt8} (h:dgt c=true):UInt8.ofNat (48+(c.toNat-48))=c∧c.toNat-48 < 10:=by
 unfold dgt at h
 simp at h
 refine ⟨?_,by omega⟩
 rw [show 48+(c.toNat-48)=c.toNat from by omega]
 exact UInt8.ofNat_toNat
theorem dd_canon:∀ (n:Nat) (l:Bs),l.length=n→l≠[]→l.all dgt=true→(l.head? = some 48→l.length=1)→Lib.decDigits (dvA 0 l)=l:=by
 intro n
 induction n with
 | zero=>intro l h hne;exact absurd (List.length_eq_zero_iff.1 h) hne
 | succ n ih =>
  intro l h hne ha hh
  obtain ⟨i,c,rfl⟩:∃ i c,l=i++[c]:=⟨l.dropLast,l.getLast hne,(List.dropLast_concat_getLast hne).symm⟩
  rw [List.all_append,Bool.and_eq_true] at ha
  have hc:dgt c=true:=by simpa using ha.2
  obtain ⟨hb,hl⟩:=dgt_back hc
  rw [dvA_snoc]
  cases i with
  | nil =>
   rw [show dvA 0 []*10+(c.toNat-48)=c.toNat-48 from by simp [dvA],Lib.decDigits_one hl,hb];rfl
  | cons b t =>
   have h48:b≠48:=fun e=>by
    have:=hh (by simp [e])
    simp at this
   have e:=ih (b::t) (by simpa using h) (by simp) ha.1 (fun e=>absurd (by simpa using e) h48)
   have hp:1≤dvA 0 (b::t):=by
    rcases Nat.eq_zero_or_pos (dvA 0 (b::t)) with h0|h0
    ·rw [h0,Lib.decDigits_one (by omega)] at e
     injection e with e1 e2
     exact absurd (by rw [←e1];rfl) h48
    ·exact h0
   rw [Lib.decDigits,dif_neg (by omega)]
   rw [show (dvA 0 (b::t)*10+(c.toNat-48)) / 10=dvA 0 (b::t) from by omega,show (dvA 0 (b::t)*10+(c.toNat-48)) % 10=c.toNat-48 from by omega,e,hb]
theorem dd_head:∀ u,(Lib.decDigits u).head? = some 48→u=0:=by
 intro u
 induction u using Nat.strongRecOn with
 | _ u ih =>
  intro h
  rw [Lib.decDigits] at h
  split at h
  ·rename_i h1
   have e:=(dgt_of u h1).2
   rw [List.head?_cons] at h
   injection h with h
   rw [h] at e
   have:(48:UInt8).toNat=48:=rfl
   omega
  ·rename_i h1
   have hne:=dd_ne (u / 10)
   cases hd:Lib.decDigits (u / 10) with
   | nil=>exact absurd hd hne
   | cons a t =>
    rw [hd] at h
    have:=ih (u / 10) (by omega) (by rw [hd];simpa using h)
    omega
end Go.AL
end
section
namespace Go.AL
open Go Go.Proofs
def chk:List Bs→List Bs
 | []=>[]
 | [h]=>if h=[] then [] else [h]
 | h::g::t=>(h++[10])::chk (g::t)
theorem chunks_eq:∀ s,chunks s=chk (cuts 10 s)
 | []=>rfl
 | c::r=>by
  have ih:=chunks_eq r
  have hne:=cuts_ne 10 r
  rw [chunks,cuts]
  by_cases hc:c=10
  ·rw [if_pos hc,if_pos hc,ih]
   cases hk:cuts 10 r with
   | nil=>exact absurd hk hne
   | cons a t=>rfl
  ·rw [if_neg hc,if_neg hc]
   cases hk:cuts 10 r with
   | nil=>exact absurd hk hne
   | cons a t =>
    rw [hk] at ih
    rw [ih]
    cases t with
    | nil =>
     cases a with
     | nil=>simp [chk,consH]
     | cons x y=>simp [chk,consH]
    | cons b u=>simp [chk,consH]
end Go.AL
end
section
namespace Go.AL
open Go Go.Proofs
theorem isDig_dgt (c:UInt8):isDig c=dgt c:=by
 unfold isDig dgt
 rw [Bool.eq_iff_iff]
 simp
 omega
theorem dsum_dv:∀ (l:Bs) (a:Nat),l.all dgt=true→l.foldl (fun n c=>10*n+((c.toNat:Int)-48)) (a:Int)=(dvA a l:Int)
 | [],a,_=>rfl
 | c::r,a,h=>by
  rw [List.all_cons,Bool.and_eq_true] at h
  have hc:=h.1
  unfold dgt at hc
  simp at hc
  have ih:=dsum_dv r (a*10+(c.toNat-48)) h.2
  rw [List.foldl_cons,show (10*(a:Int)+((c.toNat:Int)-48))=((a*10+(c.toNat-48):Nat):Int) from by omega,ih]
  rfl
theorem dsum_all (l:Bs) (h:l.all dgt=true):dsum l l.length=(dvA 0 l:Int):=by
 unfold dsum
 rw [List.take_length]
 exact dsum_dv l 0 h
theorem dd_len:∀ (k u:Nat),u < 10 ^ (k+1)→(Lib.decDigits u).length≤k+1
 | 0,u,h=>by rw [Lib.decDigits_one (by omega)];simp
 | k+1,u,h=>by
  rw [Lib.decDigits]
  split
  ·simp
  ·have:=dd_len k (u / 10) (by rw [Nat.pow_succ] at h;omega)
   rw [List.length_append]
   simp
   omega
def can (s:Bs) (v:Int):Prop:=s=Lib.itoa v∧-1000000000≤v∧v≤1000000000
theorem dd_first (u:Nat):∃ c r,Lib.decDigits u=c::r∧dgt c=true:=by
 cases hd:Lib.decDigits u with
 | nil=>exact absurd hd (dd_ne u)
 | cons c r =>
  have:=dd_all u
  rw [hd,List.all_cons,Bool.and_eq_true] at this
  exact ⟨c,r,rfl,this.1⟩
theorem mag_dd (u:Nat) (h:u≤1000000000):Lib.parseMag (Lib.decDigits u) = .ok u:=by
 unfold Lib.parseMag
 rw [if_neg (dd_ne u),parse_dv _ 0 (dd_all u) (by rw [dd_val];omega),dd_val]
theorem atoi_itoa (v:Int) (h1 : -1000000000≤v) (h2:v≤1000000000):Lib.atoiAll (Lib.itoa v) = .ok v:=by
 unfold Lib.itoa
 by_cases hv:v < 0
 ·rw [if_pos hv]
  unfold Lib.atoiAll
  have:(45:UInt8).toNat=45:=rfl
  simp only [this,or_true,if_true,mag_dd v.natAbs (by omega)]
  rw [if_neg (by omega),if_neg (by omega)]
  congr 1
  omega
 ·rw [if_neg hv]
  have hm:=mag_dd v.toNat (by omega)
  obtain ⟨c,r,e,hc⟩:=dd_first v.toNat
  unfold dgt at hc
  simp at hc
  rw [e] at hm ⊢
  unfold Lib.atoiAll
  simp only
  rw [if_neg (by omega),hm]
  simp only
  rw [if_neg (by omega),if_neg (by omega),if_neg (by omega)]
  congr 1
  omega
theorem numOk_can {s:Bs} {v:Int} (h:can s v):numOk s=true∧numV s=v:=by
 obtain ⟨rfl,h1,h2⟩:=h
 unfold numOk numV
 rw [atoi_itoa v h1 h2]
 simp [inn,h1,h2]
theorem can_numOk {s:Bs} (h:numOk s=true):can s (numV s):=by
 unfold numOk at h
 unfold numV
 cases ha:Lib.atoiAll s with
 | ok v =>
  rw [ha] at h
  simp [inn] at h
  exact ⟨h.1.symm,h.2.1,h.2.2⟩
 | «syntax»=>rw [ha] at h;cases h
 | range=>rw [ha] at h;cases h
end Go.AL
end
section
namespace Go.AL
open Go Go.Proofs
theorem rnumT_dd (bl : Bool) (u : Nat) (h : u ≤ 1000000000) (hb : bl = true → 1 ≤ u) : rnumT bl (Lib.decDigits u) = (cond bl (0 - (u : Int)) u, true) := by
  have hl := dd_len 9 u (by omega)
  have ha := dd_all u
  have hv := dsum_all _ ha
  rw [dd_val] at hv
  have hh := dd_head u
  cases hd : Lib.decDigits u with
  | nil => exact absurd hd (dd_ne u)
  | cons c r =>
    rw [hd] at hl ha hv hh
    have ha2 : (c :: r).all isDig = true := by rw [← ha]; congr 1; funext x; exact isDig_dgt x
    simp only [List.length_cons] at hl hv
    have h0 : (decide (r.length + 1 > 10) || (decide (c = 48) && (decide (r.length + 1 > 1) || bl))) = false := by
      have e1 : decide (r.length + 1 > 10) = false := by simp; omega
      rw [e1, Bool.false_or]
      by_cases hc : c = 48
      · have hu := hh (by rw [hc]; rfl)
        have hbf : bl = false := by cases bl; · rfl
                                    · have := hb rfl; omega
        rw [hu, Lib.decDigits_one (by omega)] at hd
        injection hd with _ hr
        rw [← hr, hbf]
        simp
      · rw [decide_eq_false hc]; rfl
    show cond (decide (r.length + 1 > 10) || (decide (c = 48) && (decide (r.length + 1 > 1) || bl))) (0, false) (cond ((c :: r).all isDig) (cond (decide (dsum (c :: r) (r.length + 1) > 1000000000)) (0, false) (cond bl (0 - dsum (c :: r) (r.length + 1)) (dsum (c :: r) (r.length + 1)), true)) (0, false)) = _
    have e2 : decide ((u : Int) > 1000000000) = false := by simp; omega
    rw [h0, ha2, hv, e2]
    rfl
theorem rnumT_back {bl:Bool} {t:Bs} (h:(rnumT bl t).2=true):∃ u:Nat,t=Lib.decDigits u∧u≤1000000000∧(bl=true→1≤u):=by
 cases t with
 | nil=>exact absurd h (by simp [rnumT])
 | cons c r =>
  unfold rnumT at h
  simp only at h
  cases h0:(decide (r.length+1 > 10)||(decide (c=48)&&(decide (r.length+1 > 1)||bl))) with
  | true=>rw [h0] at h;exact absurd h (by simp)
  | false =>
   rw [h0] at h
   simp only [cond_false] at h
   cases ha2:(c::r).all isDig with
   | false=>rw [ha2] at h;exact absurd h (by simp)
   | true =>
    rw [ha2] at h
    simp only [cond_true] at h
    have ha:(c::r).all dgt=true:=by rw [←ha2];congr 1;funext x;exact (isDig_dgt x).symm
    have hv:=dsum_all _ ha
    simp only [List.length_cons] at hv
    rw [hv] at h
    have hle:dvA 0 (c::r)≤1000000000:=by
     by_cases hq:(dvA 0 (c::r):Int) > 1000000000
     ·rw [decide_eq_true hq] at h;exact absurd h (by simp)
     ·omega
    rw [Bool.or_eq_false_iff] at h0
    have e:=dd_canon _ (c::r) rfl (by simp) ha (fun e=>by
     rw [List.head?_cons] at e
     injection e with e
     have:=h0.2
     rw [decide_eq_true e] at this
     simp at this
     simp [this.1])
    refine ⟨dvA 0 (c::r),e.symm,hle,fun hb=>?_⟩
    rcases Nat.eq_zero_or_pos (dvA 0 (c::r)) with hz|hz
    ·rw [hz,Lib.decDigits_one (by omega)] at e
     injection e with e1 e2
     have:=h0.2
     rw [hb,←e1,Bool.or_true,Bool.and_true] at this
     exact absurd this (by decide)
    ·exact hz
theorem rnum_can {s:Bs} {v:Int} (h:can s v):rnum s=(v,true):=by
 obtain ⟨rfl,h1,h2⟩:=h
 unfold Lib.itoa
 by_cases hv:v < 0
 ·rw [if_pos hv]
  show rnumT true (Lib.decDigits v.natAbs)=_
  rw [rnumT_dd true _ (by omega) (fun _=>by omega)]
  simp only [cond_true]
  congr 1
  omega
 ·rw [if_neg hv]
  have e:=rnumT_dd false v.toNat (by omega) (fun h=>by cases h)
  obtain ⟨c,r,hd,hc⟩:=dd_first v.toNat
  rw [hd] at e ⊢
  have h45:¬c=45:=fun e=>by rw [e] at hc;exact absurd hc (by decide)
  show cond (decide (c=45)) (rnumT true r) (rnumT false (c::r))=_
  rw [decide_eq_false h45]
  simp only [cond_false]
  rw [e]
  simp only [cond_false]
  congr 1
  omega
theorem can_rnum {s:Bs} (h:(rnum s).2=true):∃ v,can s v:=by
 cases s with
 | nil=>exact absurd h (by simp [rnum])
 | cons c r =>
  have e:rnum (c::r)=cond (decide (c=45)) (rnumT true r) (rnumT false (c::r)):=rfl
  rw [e] at h
  by_cases hc:c=45
  ·rw [decide_eq_true hc] at h
   obtain ⟨u,hu,hl,hp⟩:=rnumT_back h
   have:=hp rfl
   refine ⟨-(u:Int),?_,by omega,by omega⟩
   rw [hc,hu,Lib.itoa,if_pos (by omega)]
   congr 2
   omega
  ·rw [decide_eq_false hc] at h
   simp only [cond_false] at h
   obtain ⟨u,hu,hl,hp⟩:=rnumT_back h
   refine ⟨(u:Int),?_,by omega,by omega⟩
   rw [hu,Lib.itoa,if_neg (by omega)]
   congr 1
theorem rdN_eq (s:Bs):rdN s=ropN s:=by
 unfold rdN ropN
 cases h:numOk s with
 | true=>rw [rnum_can (can_numOk h)]
 | false =>
  cases h2:(rnum s).2 with
  | false=>rfl
  | true =>
   obtain ⟨v,hv⟩:=can_rnum h2
   rw [(numOk_can hv).1] at h
   cases h
end Go.AL
end
section
namespace Go.AL
open Go Go.Proofs
theorem suf1 (l:Bs) (c:UInt8):Lib.hasSuffix l [c]=match l.getLast? with|some d=>decide (d=c)|none=>false:=by
 rcases List.eq_nil_or_concat l with rfl|⟨i,d,rfl⟩
 ·rfl
 ·rw [List.concat_eq_append,List.getLast?_concat]
  rw [Bool.eq_iff_iff]
  show [c].isSuffixOf (i++[d])=true↔decide (d=c)=true
  rw [List.isSuffixOf_iff_suffix,decide_eq_true_iff]
  constructor
  ·rintro ⟨t,ht⟩
   have:=List.append_inj' ht rfl
   have:=this.2
   simp at this
   exact this.symm
  ·rintro rfl
   exact ⟨i,rfl⟩
theorem bare_end (l:Bs):bare (l++[10])=l:=by
 unfold bare Lib.trimSuffix
 rw [suf1,List.getLast?_concat]
 simp
theorem ended_end (l:Bs):ended (l++[10])=true:=by
 unfold ended
 rw [suf1,List.getLast?_concat]
 simp
theorem isLab_eq (l:Bs):isLab l=rlab l:=by
 unfold isLab rlab
 exact suf1 l 58
theorem labName_eq (l:Bs) (h:rlab l=true):labName l=l.dropLast∧l=l.dropLast++[58]:=by
 have h1:=isLab_eq l
 rw [h] at h1
 unfold isLab at h1
 unfold labName Lib.trimSuffix
 rw [if_pos h1]
 refine ⟨by rw [List.dropLast_eq_take];rfl,?_⟩
 unfold rlab at h
 rcases List.eq_nil_or_concat l with rfl|⟨i,d,rfl⟩
 ·cases h
 ·rw [List.concat_eq_append,List.getLast?_concat] at h
  have:d=58:=by simpa using h
  simp [this]
theorem rlab_end (w:Bs):rlab (w++[58])=true:=by
 unfold rlab
 rw [List.getLast?_concat];rfl
theorem cuts_no (c:UInt8):∀ s,∀ l∈cuts c s,c ∉ l
 | [],l,h=>by
  have:l=[]:=by simpa [cuts] using h
  rw [this];simp
 | b::r,l,h=>by
  have ih:=cuts_no c r
  rw [cuts] at h
  by_cases hb:b=c
  ·rw [if_pos hb] at h
   rcases List.mem_cons.1 h with rfl|h
   ·simp
   ·exact ih l h
  ·rw [if_neg hb] at h
   cases hk:cuts c r with
   | nil=>exact absurd hk (cuts_ne c r)
   | cons a t =>
    rw [hk] at h ih
    simp only [consH] at h
    rcases List.mem_cons.1 h with rfl|h
    ·intro hc
     rcases List.mem_cons.1 hc with e|hc
     ·exact hb e.symm
     ·exact ih a (by simp) hc
    ·exact ih l (List.mem_cons_of_mem _ h)
theorem no_end {l:Bs} (h:(10:UInt8) ∉ l):ended l=false∧bare l=l:=by
 have e:Lib.hasSuffix l [10]=false:=by
  rw [suf1]
  cases hg:l.getLast? with
  | none=>rfl
  | some d =>
   have:=List.mem_of_getLast? hg
   have:¬d=10:=fun e=>h (e ▸ this)
   simp [this]
 refine ⟨e,?_⟩
 unfold bare Lib.trimSuffix
 rw [e];rfl
theorem chk_eq:∀ (ls:List Bs) (x:Bs),chk (ls++[x])=ls.map (· ++ [10])++(if x=[] then [] else [x])
 | [],x=>by simp [chk]
 | [l],x=>by simp [chk]
 | l::g::t,x=>by
  have ih:=chk_eq (g::t) x
  simp only [List.cons_append] at ih ⊢
  rw [chk,ih]
  simp
theorem lines_split (s:Bs):∃ x,rsplit 10 s=rlines s++[x]∧chunks s=(rlines s).map (· ++ [10])++(if x=[] then [] else [x])∧(10:UInt8) ∉ x:=by
 have hne:=cuts_ne 10 s
 refine ⟨(cuts 10 s).getLast hne,?_,?_,?_⟩
 ·unfold rlines
  rw [rsplit_eq,List.dropLast_concat_getLast]
 ·rw [chunks_eq]
  unfold rlines
  rw [rsplit_eq]
  rw [←chk_eq,List.dropLast_concat_getLast]
 ·exact cuts_no 10 s _ (List.getLast_mem hne)
theorem lab_inv (ls:List Bs):∀ k,k≤ls.length→(labSt (ls.map (· ++ [10])) k).2=nl ls k∧∀ w,(labSt (ls.map (· ++ [10])) k).1.lookup w=((ls.take k).findIdx? (fun l=>decide (l=w++[58]))).map (nl ls)
 | 0,_=>⟨by simp [labSt,nl],fun w=>by simp [labSt]⟩
 | k+1,h=>by
  obtain ⟨ih1,ih2⟩:=lab_inv ls k (by omega)
  have hk:k < ls.length:=by omega
  have hkm:k < (ls.map (· ++ [10])).length:=by simpa using hk
  rw [labSt_succ hkm]
  have hg:(ls.map (· ++ [10]))[k]=ls[k]++[10]:=by simp
  rw [hg]
  generalize labSt (ls.map (· ++ [10])) k=st at *
  obtain ⟨m,n⟩:=st
  simp only at ih1 ih2
  unfold stepL
  rw [bare_end,ended_end,isLab_eq,nl_succ hk,ih1]
  refine ⟨rfl,fun w=>?_⟩
  have hw:=ih2 w
  rw [List.take_succ_eq_append_getElem hk,List.findIdx?_append]
  have hlen:(ls.take k).length=k:=by rw [List.length_take];omega
  rw [hlen]
  generalize (ls.take k).findIdx? (fun l=>decide (l=w++[58]))=q at *
  simp only [Bool.true_and]
  cases hr:rlab ls[k] with
  | false =>
   have hn:¬ls[k]=w++[58]:=fun e=>by rw [e,rlab_end] at hr;cases hr
   simp only [Bool.false_and,cond_false,List.findIdx?_cons,List.findIdx?_nil,decide_eq_false hn]
   rw [hw]
   cases q<;>simp
  | true =>
   obtain ⟨hd,hl⟩:=labName_eq ls[k] hr
   have hp:decide (ls[k]=w++[58])=decide (labName ls[k]=w):=by
    rw [hd]
    by_cases e:ls[k].dropLast=w
    ·rw [decide_eq_true e,decide_eq_true]
     rw [←e];exact hl
    ·rw [decide_eq_false e,decide_eq_false]
     intro e2
     apply e
     rw [e2];simp
   simp only [Bool.true_and,List.findIdx?_cons,List.findIdx?_nil,hp]
   generalize labName ls[k]=d at *
   by_cases e:d=w
   ·subst e
    simp only [decide_true]
    cases q with
    | some i=>rw [hw];simp [hw]
    | none =>
     rw [hw]
     simp only [Option.map_none,Option.isSome_none,Bool.not_false,cond_true]
     rw [List.lookup_append,hw]
     simp [List.lookup]
   ·have e2:(w == d)=false:=by simp;exact fun h=>e h.symm
    simp only [decide_eq_false e]
    cases (m.lookup d).isSome
    ·simp only [Bool.not_false,cond_true]
     rw [List.lookup_append,hw]
     cases q<;>simp [List.lookup,e2]
    ·simp only [Bool.not_true,cond_false]
     rw [hw]
     cases q<;>simp
end Go.AL
end
