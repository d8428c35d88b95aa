/-
  Part 6 of the proof texts: the program logic over the model, then the contracts of the functions that the laws reach. No conditions.
-/
import Derived.Test.YteefnlbapebamaaGreatDoorF5
import Derived.Laws.RangeString
import Derived.Laws.RangeAny
import Derived.WalkKit
set_option linter.unusedVariables false
set_option linter.unusedSimpArgs false
set_option maxHeartbeats 2000000
section
set_option maxRecDepth 100000
namespace Go.AL
open Go Go.Proofs
attribute [local irreducible] J
structure Ins where
 op:Int
 a:Int
 b:Int
 c:Int
instance:Inhabited Ins:=⟨⟨0,0,0,0⟩⟩
def encIns (i:Ins):AVal:=.agg [iv i.op,iv i.a,iv i.b,iv i.c]
def rd (m:Mp) (c:UInt8) (w:Bs):Int × Int:=cond (decide (c=114)) (rdR w) (cond (decide (c=110)) (rdN w) (rdT m w))
def rdAll (m:Mp):Bs→List Bs→List Int × Int
 | c::cs,w::ws=>cond (decide ((rd m c w).2=0)) (((rd m c w).1::(rdAll m cs ws).1),(rdAll m cs ws).2) ([],(rd m c w).2)
 | _,_=>([],0)
def instrK (m:Mp) (op:Int) (kd:Bs) (ws:List Bs):Ins × Int :=
 cond (decide (ws.length=kd.length)) (cond (decide ((rdAll m kd ws).2=0)) (⟨op,(rdAll m kd ws).1.getD 0 0,(rdAll m kd ws).1.getD 1 0,(rdAll m kd ws).1.getD 2 0⟩,0) (default,(rdAll m kd ws).2)) (default,12)
def instrP (m:Mp) (s:Bs):Ins × Int :=
 match words s with
 | []=>(default,10)
 | w::ws=>cond (decide (findOp w < 0)) (default,10) (instrK m (findOp w) (at' opsT (findOp w)).2 ws)
def rdF (j:Nat):List (Value × AVal):=[(.int .u8 114,.fn (.func 168) [] []),(.int .u8 110,.fn (.func 169) [] []),(.int .u8 116,.fn (.func 171) [] [.ptr j 0])]
def iH (g:Gl) (m:Mp):List AObj:=[g.a,g.b,g.c,g.d,.vmap (encM m),.box 186 [.mp 4],.map (rdF 5)]
theorem rdF_keys (j:Nat):MKeys (.int .u8) (rdF j):=by
 simp [MKeys,rdF,MapKept.IsKey]
theorem words_ne (s:Bs):words s≠[]:=fun h=>by
 have:=words_len s
 rw [h] at this
 simp at this
theorem findOp_cases (w:Bs):findOp w = -1∨∃ k:Nat,k < 27∧findOp w=(k:Int):=by
 unfold findOp
 split
 ·rename_i i hi
  have:=(List.findIdx?_eq_some_iff_getElem.1 hi).1
  exact .inr ⟨i,this,rfl⟩
 ·exact .inl rfl
theorem kinds_ok:∀ k:Nat,k < 27→(at' opsT (k:Int)).2.length≤3∧∀ c∈(at' opsT (k:Int)).2,c=114∨c=110∨c=116:=by decide
theorem ops_kind:∀ (i:Nat),i < 27→takeA ty9 opsC (0+i*ty213.size+1)=some (sv (at' opsT (i:Int)).2)
 | 0,_=>rfl
 | 1,_=>rfl
 | 2,_=>rfl
 | 3,_=>rfl
 | 4,_=>rfl
 | 5,_=>rfl
 | 6,_=>rfl
 | 7,_=>rfl
 | 8,_=>rfl
 | 9,_=>rfl
 | 10,_=>rfl
 | 11,_=>rfl
 | 12,_=>rfl
 | 13,_=>rfl
 | 14,_=>rfl
 | 15,_=>rfl
 | 16,_=>rfl
 | 17,_=>rfl
 | 18,_=>rfl
 | 19,_=>rfl
 | 20,_=>rfl
 | 21,_=>rfl
 | 22,_=>rfl
 | 23,_=>rfl
 | 24,_=>rfl
 | 25,_=>rfl
 | 26,_=>rfl
 | n+27,h=>absurd h (by omega)
theorem splitK_len (sep:Bs) (save:Nat):∀ (k:Nat) (s x:Bs),x∈Lib.splitK sep save k s→x.length≤s.length
 | 0,s,x,h=>by simp [Lib.splitK] at h;subst h;exact Nat.le_refl _
 | k+1,s,x,h=>by
  unfold Lib.splitK at h
  split at h
  ·simp at h;subst h;exact Nat.le_refl _
  ·rcases List.mem_cons.1 h with rfl|h
   ·rw [List.length_take];omega
   ·have:=splitK_len sep save k _ x h
    rw [List.length_drop] at this;omega
theorem rdAll_ok (m:Mp):∀ (kd:Bs) (ws:List Bs),ws.length=kd.length→(∀ q,q < kd.length→(rd m (kd.getD q 0) (ws.getD q [])).2=0) →
  (rdAll m kd ws).2=0∧∀ q,q < kd.length→(rdAll m kd ws).1.getD q 0=(rd m (kd.getD q 0) (ws.getD q [])).1
 | [],ws,_,_=>⟨by simp [rdAll],fun q h=>absurd h (by simp)⟩
 | c::kd,[],h,_=>by simp at h
 | c::kd,w::ws,h,ha=>by
  have h0:=ha 0 (by simp)
  simp at h0
  obtain ⟨i1,i2⟩:=rdAll_ok m kd ws (by simpa using h) fun q hq=>by simpa using ha (q+1) (by simpa using hq)
  have e:rdAll m (c::kd) (w::ws)=((rd m c w).1::(rdAll m kd ws).1,(rdAll m kd ws).2):=by simp [rdAll,h0]
  rw [e]
  refine ⟨i1,fun q hq=>?_⟩
  cases q with
  | zero=>simp
  | succ q=>simpa using i2 q (by simpa using hq)
theorem rdAll_len (m:Mp):∀ (kd:Bs) (ws:List Bs),(rdAll m kd ws).1.length≤kd.length
 | [],ws=>by simp [rdAll]
 | c::kd,[]=>by simp [rdAll]
 | c::kd,w::ws=>by
  have:=rdAll_len m kd ws
  simp only [rdAll]
  cases decide ((rd m c w).2=0)<;>simp<;>omega
theorem rdAll_bad (m:Mp):∀ (kd:Bs) (ws:List Bs) (i:Nat),ws.length=kd.length→i < kd.length→(∀ q,q < i→(rd m (kd.getD q 0) (ws.getD q [])).2=0)→(rd m (kd.getD i 0) (ws.getD i [])).2≠0 →
  (rdAll m kd ws).2=(rd m (kd.getD i 0) (ws.getD i [])).2
 | [],ws,i,_,hi,_,_=>by simp at hi
 | c::kd,[],i,h,_,_,_=>by simp at h
 | c::kd,w::ws,0,h,_,_,hb=>by
  simp at hb
  simp [rdAll,hb]
 | c::kd,w::ws,i+1,h,hi,ha,hb=>by
  have h0:=ha 0 (by omega)
  simp at h0
  have e:rdAll m (c::kd) (w::ws)=((rd m c w).1::(rdAll m kd ws).1,(rdAll m kd ws).2):=by simp [rdAll,h0]
  rw [e]
  simpa using rdAll_bad m kd ws i (by simpa using h) (by simpa using hi) (fun q hq=>by simpa using ha (q+1) (by omega)) (by simpa using hb)
theorem instr_ok (g:Gl) (m:Mp) (s:Bs) (hs:s.length≤1000000):ACalls Tryz.prog 122 [sv s,.mp 6] (iH g m) (one (.tup [encIns (instrP m s).1,iv (instrP m s).2]) (iH g m)):=by
 have hop:=operations_ok
 have hsp:=split_ok g s hs
 have hwl:=words_len s
 have hwb:(words s).length≤1000001:=by
  rw [hwl]
  have:=Lib.countB_le ⟨#[32]⟩ (by simp [ByteArray.size]) _ ⟨s.toArray⟩ (Nat.le_refl _)
  have hsz:ByteArray.size ⟨s.toArray⟩≤1000000:=by simpa [ByteArray.size] using hs
  omega
 unfold instrP
 have hne:=words_ne s
 generalize hws:words s=ws at *
 cases ws with
 | nil=>exact absurd rfl hne
 | cons w r =>
  simp only
  have hix:=indexOp_ok w r
  have hkk:=findOp_cases w
  generalize findOp w=op at *
  refine jC Tryz.func122 Tryz.ntmps122 (fun w0 β0 ext hβ=>?_)
  repeat (first|refine jS ?_|refine jD ?_|refine jB ?_|refine jV hop ?_)
  refine jBb [0,1,2,3] hsp ?_
  repeat (first|refine jS ?_|refine jD ?_|refine jB ?_|refine jo rfl rfl (slice_box 0 27 rfl rfl rfl rfl rfl rfl (by omega) (by omega) (by omega)) rfl rfl ?_)
  refine jBb [8,9] hix ?_
  refine jheap (iH g m++[.box 176 [iv 0,iv 0,iv 0,iv 0],.box 214 opsC,.box 96 [.slf ((w::r).map sv)]]) rfl ?_
  repeat (first|refine jS ?_|refine jD ?_|refine jB ?_)
  rcases hkk with rfl|⟨k,hk,rfl⟩
  ·repeat (first|refine jS ?_|refine jD ?_|refine jB ?_)
   exact jR
  ·have hlt:decide ((k:Int) < 0)=false:=decide_eq_false (by omega)
   have hkd:=ops_kind k hk
   obtain ⟨hk3,hkc⟩:=kinds_ok k hk
   rw [hlt]
   simp only [cond_false]
   generalize (at' opsT (k:Int)).2=kd at *
   repeat (first|refine jS ?_|refine jD ?_|refine jB ?_|refine jo rfl rfl (index_arr rfl rfl rfl rfl rfl (by omega) (by omega)) rfl rfl ?_|refine jo rfl rfl (load_dsem rfl rfl rfl hkd) rfl rfl ?_)
   have hcnd:((((w::r).map sv).length:Int) != IntKind.i64.wrap (1+(ByteArray.size ⟨kd.toArray⟩:Int))) = !decide (r.length=kd.length):=by
    have e1:ByteArray.size ⟨kd.toArray⟩=kd.length:=rfl
    rw [e1,wrap_id (by omega) (by omega),Bool.eq_iff_iff]
    simp
    omega
   rw [hcnd]
   unfold instrK
   cases hb:decide (r.length=kd.length) with
   | false =>
    simp only [Bool.not_false,cond_false]
    repeat (first|refine jS ?_|refine jD ?_|refine jB ?_)
    exact jR
   | true =>
    have hlen:=of_decide_eq_true hb
    simp only [Bool.not_true,cond_true]
    repeat (first|refine jS ?_|refine jD ?_|refine jB ?_)
    let ok:Nat→Prop:=fun i=>i≤kd.length∧∀ q,q < i→(rd m (kd.getD q 0) (r.getD q [])).2=0
    let vv:Nat→Nat→AVal:=fun q i=>iv (cond (decide (q < i)) (rd m (kd.getD q 0) (r.getD q [])).1 0)
    refine jloopI ok [1,9,7,10,36,35,4,8] (fun i=>[.mp 6,sv kd,.ptr 9 0,.ptr 10 0,.v (.int .i64 (i:Int)),.v (.int .i64 (kd.length:Int)),.ptr 7 0,.v (.int .i64 (k:Int))])
     (fun i=>iH g m++[.box 176 [iv 0,iv 0,iv 0,iv 0],.box 214 opsC,.box 96 [.slf ((w::r).map sv)],.box 116 [vv 0 i,vv 1 i,vv 2 i]]) (fun i=>kd.length-i) 0 ⟨Nat.zero_le _,fun q hq=>absurd hq (by omega)⟩ rfl rfl (fun i hi=>?_)
    obtain ⟨hi,hok⟩:=hi
    repeat (first|refine jS ?_|refine jD ?_|refine jB ?_)
    refine jc rfl rfl rfl (fun h=>?_) (fun h=>?_)
    ·have h:=of_decide_eq_true h
     have hik:i < kd.length:=by omega
     have hnx:=idx_next hik (by omega)
     have hwd:at' (w::r) (IntKind.i64.wrap ((i:Int)+1))=r.getD i []:=by
      rw [hnx];simp [at'];rfl
     obtain ⟨c,hc⟩:∃ c,kd[i]? = some c:=⟨_,List.getElem?_eq_getElem hik⟩
     have hcb:(⟨kd.toArray⟩:ByteArray)[((i:Int)).toNat]? = some c:=by
      have hsz:((i:Int)).toNat < (⟨kd.toArray⟩:ByteArray).size:=hik
      rw [getElem?_pos (⟨kd.toArray⟩:ByteArray) _ hsz]
      rw [List.getElem?_eq_getElem hik] at hc
      injection hc with hc
      rw [←hc];rfl
     have hcd:kd.getD i 0=c:=by simp [List.getD,hc]
     have hcm:c∈kd:=List.mem_of_getElem? hc
     have hl1:(0:Int)≤IntKind.i64.wrap ((i:Int)+1):=by rw [hnx];omega
     have hl2:IntKind.i64.wrap ((i:Int)+1) < ((w::r).length:Int):=by rw [hnx,List.length_cons];omega
     have hwl2:(at' (w::r) (IntKind.i64.wrap ((i:Int)+1))).length≤1000000:=by
      rw [hwd]
      have hir:i < r.length:=by omega
      have hm:r.getD i []∈words s:=by rw [hws];refine List.mem_cons_of_mem _ ?_;simp [List.getD,hir]
      exact Nat.le_trans (splitK_len [32] 0 _ s _ hm) hs
     have hR:=rdR_ok (at' (w::r) (IntKind.i64.wrap ((i:Int)+1)))
     have hN:=rdN_ok g (at' (w::r) (IntKind.i64.wrap ((i:Int)+1))) hwl2
     have hT:=rdT_ok m (at' (w::r) (IntKind.i64.wrap ((i:Int)+1)))
     have hks:=rdF_keys 5
     rcases hkc c hcm with rfl|rfl|rfl
     ·have hf:MFind (rdF 5) (.int .u8 114) (some (.fn (.func 168) [] [])):=.inl ⟨rfl,rfl⟩
      repeat (first|refine jS ?_|refine jB ?_)
      refine jdrawP [(0,.p),(1,.p),(2,.p),(3,.p),(4,.s),(5,.r),(6,.p),(7,.p),(8,.p),(9,.r),(10,.s),(11,.p),(12,.p),(13,.p),(14,.p),(15,.p)] (by decide) (by kernel_rfl) ?_
      repeat (first|refine jS ?_|refine jD ?_|refine jB ?_|refine jo rfl rfl (index_str rfl rfl rfl rfl (Int.natCast_nonneg i) hcb) rfl rfl ?_|refine jo rfl rfl (map_get rfl rfl rfl rfl rfl rfl rfl rfl rfl rfl hks hf rfl) rfl rfl ?_|refine jI hl1 hl2 ?_|refine jV hR ?_)
      have hrd:rd m (kd.getD i 0) (r.getD i [])=rdR (at' (w::r) (IntKind.i64.wrap ((i:Int)+1))):=by rw [hwd,hcd];rfl
      generalize rdR (at' (w::r) (IntKind.i64.wrap ((i:Int)+1)))=p at *
      obtain ⟨p1,p2⟩:=p
      by_cases hp:p2=0
      ·subst hp
       have hok':ok (i+1):=⟨by omega,fun q hq=>by
        by_cases hqi:q=i
        ·subst hqi;rw [hrd]
        ·exact hok q (by omega)⟩
       have hi3:i=0∨i=1∨i=2:=by omega
       rcases hi3 with rfl|rfl|rfl
       all_goals (
        repeat (first|refine jS ?_|refine jD ?_|refine jB ?_|refine jo rfl rfl (index_arr rfl rfl rfl rfl rfl (by omega) (by omega)) rfl rfl ?_)
       )
       all_goals refine jnextI (_+1) hok' ?_ ?_ ?_
       all_goals first|omega|rfl|(show _=_;simp only [vv,hrd];rfl)
      ·have hbad:=rdAll_bad m kd r i hlen hik hok (by rw [hrd];exact hp)
       rw [hrd] at hbad
       have hp':(p2 != 0)=true:=by simpa using hp
       rw [hbad,decide_eq_false hp]
       simp only [cond_false]
       simp only [hp']
       repeat (first|refine jS ?_|refine jD ?_|refine jB ?_)
       exact jR
     ·have hf:MFind (rdF 5) (.int .u8 110) (some (.fn (.func 169) [] [])):=.inr ⟨by simp,.inl ⟨rfl,rfl⟩⟩
      repeat (first|refine jS ?_|refine jB ?_)
      refine jdrawP [(0,.p),(1,.p),(2,.p),(3,.p),(4,.s),(5,.r),(6,.p),(7,.p),(8,.p),(9,.r),(10,.s),(11,.p),(12,.p),(13,.p),(14,.p),(15,.p)] (by decide) (by kernel_rfl) ?_
      repeat (first|refine jS ?_|refine jD ?_|refine jB ?_|refine jo rfl rfl (index_str rfl rfl rfl rfl (Int.natCast_nonneg i) hcb) rfl rfl ?_|refine jo rfl rfl (map_get rfl rfl rfl rfl rfl rfl rfl rfl rfl rfl hks hf rfl) rfl rfl ?_|refine jI hl1 hl2 ?_)
      refine jbs [0,1,2,3] hN rfl rfl rfl ⟨rfl,rfl,rfl,rfl,rfl,rfl⟩ rfl rfl rfl rfl ?_
      repeat (first|refine jS ?_|refine jD ?_|refine jB ?_)
      have hrd:rd m (kd.getD i 0) (r.getD i [])=rdN (at' (w::r) (IntKind.i64.wrap ((i:Int)+1))):=by rw [hwd,hcd];rfl
      generalize rdN (at' (w::r) (IntKind.i64.wrap ((i:Int)+1)))=p at *
      obtain ⟨p1,p2⟩:=p
      by_cases hp:p2=0
      ·subst hp
       have hok':ok (i+1):=⟨by omega,fun q hq=>by
        by_cases hqi:q=i
        ·subst hqi;rw [hrd]
        ·exact hok q (by omega)⟩
       have hi3:i=0∨i=1∨i=2:=by omega
       rcases hi3 with rfl|rfl|rfl
       all_goals (
        repeat (first|refine jS ?_|refine jD ?_|refine jB ?_|refine jo rfl rfl (index_arr rfl rfl rfl rfl rfl (by omega) (by omega)) rfl rfl ?_)
       )
       all_goals refine jnextI (_+1) hok' ?_ ?_ ?_
       all_goals first|omega|rfl|(show _=_;simp only [vv,hrd];rfl)
      ·have hbad:=rdAll_bad m kd r i hlen hik hok (by rw [hrd];exact hp)
       rw [hrd] at hbad
       have hp':(p2 != 0)=true:=by simpa using hp
       rw [hbad,decide_eq_false hp]
       simp only [cond_false]
       simp only [hp']
       repeat (first|refine jS ?_|refine jD ?_|refine jB ?_)
       exact jR
     ·have hf:MFind (rdF 5) (.int .u8 116) (some (.fn (.func 171) [] [.ptr 5 0])):=.inr ⟨by simp,.inr ⟨by simp,.inl ⟨rfl,rfl⟩⟩⟩
      repeat (first|refine jS ?_|refine jB ?_)
      refine jdrawP [(0,.p),(1,.p),(2,.p),(3,.p),(4,.s),(5,.r),(6,.p),(7,.p),(8,.p),(9,.r),(10,.s),(11,.p),(12,.p),(13,.p),(14,.p),(15,.p)] (by decide) (by kernel_rfl) ?_
      repeat (first|refine jS ?_|refine jD ?_|refine jB ?_|refine jo rfl rfl (index_str rfl rfl rfl rfl (Int.natCast_nonneg i) hcb) rfl rfl ?_|refine jo rfl rfl (map_get rfl rfl rfl rfl rfl rfl rfl rfl rfl rfl hks hf rfl) rfl rfl ?_|refine jI hl1 hl2 ?_)
      refine jbs [4,5] hT rfl rfl rfl ⟨rfl,rfl,rfl,rfl,rfl,rfl⟩ rfl rfl rfl rfl ?_
      repeat (first|refine jS ?_|refine jD ?_|refine jB ?_)
      have hrd:rd m (kd.getD i 0) (r.getD i [])=rdT m (at' (w::r) (IntKind.i64.wrap ((i:Int)+1))):=by rw [hwd,hcd];rfl
      generalize rdT m (at' (w::r) (IntKind.i64.wrap ((i:Int)+1)))=p at *
      obtain ⟨p1,p2⟩:=p
      by_cases hp:p2=0
      ·subst hp
       have hok':ok (i+1):=⟨by omega,fun q hq=>by
        by_cases hqi:q=i
        ·subst hqi;rw [hrd]
        ·exact hok q (by omega)⟩
       have hi3:i=0∨i=1∨i=2:=by omega
       rcases hi3 with rfl|rfl|rfl
       all_goals (
        repeat (first|refine jS ?_|refine jD ?_|refine jB ?_|refine jo rfl rfl (index_arr rfl rfl rfl rfl rfl (by omega) (by omega)) rfl rfl ?_)
       )
       all_goals refine jnextI (_+1) hok' ?_ ?_ ?_
       all_goals first|omega|rfl|(show _=_;simp only [vv,hrd];rfl)
      ·have hbad:=rdAll_bad m kd r i hlen hik hok (by rw [hrd];exact hp)
       rw [hrd] at hbad
       have hp':(p2 != 0)=true:=by simpa using hp
       rw [hbad,decide_eq_false hp]
       simp only [cond_false]
       simp only [hp']
       repeat (first|refine jS ?_|refine jD ?_|refine jB ?_)
       exact jR
    ·have h:=of_decide_eq_false h
     have hi':i=kd.length:=by omega
     subst hi'
     obtain ⟨k1,k2⟩:=rdAll_ok m kd r hlen hok
     have hq:∀ q,(rdAll m kd r).1.getD q 0=cond (decide (q < kd.length)) (rd m (kd.getD q 0) (r.getD q [])).1 0:=by
      intro q
      by_cases hql:q < kd.length
      ·rw [k2 q hql,decide_eq_true hql];rfl
      ·rw [decide_eq_false hql]
       have:=rdAll_len m kd r
       simp [List.getD,List.getElem?_eq_none (show (rdAll m kd r).1.length≤q by omega)]
     rw [k1,hq 0,hq 1,hq 2]
     repeat (first|refine jS ?_|refine jD ?_|refine jB ?_|refine jo rfl rfl (index_arr rfl rfl rfl rfl rfl (by omega) (by omega)) rfl rfl ?_)
     exact jR
end Go.AL
end
section
set_option maxRecDepth 100000
namespace Go.AL
open Go Go.Proofs
attribute [local irreducible] J
def cnt (m:Mp) (s:Bs):Int:=(m.lookup s).getD 0
def bump:Mp→Bs→Mp
 | [],s=>[(s,1)]
 | (k,n)::m,s=>cond (decide (k=s)) ((s,n+1)::m) ((k,n)::bump m s)
theorem bump_put:∀ (m:Mp) (s:Bs),MPut (vals (encM m)) (S s) (iv (cnt m s+1)) (vals (encM (bump m s)))
 | [],s=>rfl
 | (k,n)::m,s=>by
  by_cases h:k=s
  ·subst h
   have e1:bump ((k,n)::m) k=(k,n+1)::m:=by simp [bump]
   have e2:cnt ((k,n)::m) k=n:=by simp [cnt,List.lookup]
   rw [e1,e2]
   exact .inl ⟨rfl,rfl⟩
  ·have e1:bump ((k,n)::m) s=(k,n)::bump m s:=by simp [bump,h]
   have e2:cnt ((k,n)::m) s=cnt m s:=by
    have:(s == k)=false:=by simp;exact fun e=>h e.symm
    simp [cnt,List.lookup,this]
   rw [e1,e2]
   exact .inr ⟨fun e=>h (S_inj e),_,rfl,bump_put m s⟩
theorem bump_cnt:∀ (m:Mp) (s t:Bs),cnt (bump m s) t=cond (decide (s=t)) (cnt m s+1) (cnt m t)
 | [],s,t=>by
  by_cases h:s=t
  ·subst h;simp [bump,cnt,List.lookup]
  ·have:(t == s)=false:=by simp;exact fun e=>h e.symm
   simp [bump,cnt,List.lookup,this,h]
 | (k,n)::m,s,t=>by
  have ih:=bump_cnt m s t
  by_cases h:k=s
  ·subst h
   by_cases h2:k=t
   ·subst h2;simp [bump,cnt,List.lookup]
   ·have:(t == k)=false:=by simp;exact fun e=>h2 e.symm
    simp [bump,cnt,List.lookup,this,h2]
  ·have hs:(s == k)=false:=by simp;exact fun e=>h e.symm
   have e1:bump ((k,n)::m) s=(k,n)::bump m s:=by simp [bump,h]
   rw [e1]
   by_cases h2:k=t
   ·subst h2
    have h3:¬s=k:=fun e=>h e.symm
    simp [cnt,List.lookup,h3]
   ·have ht:(t == k)=false:=by simp;exact fun e=>h2 e.symm
    have e2:∀ mm:Mp,cnt ((k,n)::mm) t=cnt mm t:=fun mm=>by simp [cnt,List.lookup,ht]
    have e3:cnt ((k,n)::m) s=cnt m s:=by simp [cnt,List.lookup,hs]
    rw [e2,e2,e3];exact ih
theorem bump_lookup:∀ (m:Mp) (s:Bs),(bump m s).lookup s=some (cnt m s+1)
 | [],s=>by simp [bump,cnt,List.lookup]
 | (k,n)::m,s=>by
  by_cases h:k=s
  ·subst h;simp [bump,cnt,List.lookup]
  ·have hs:(s == k)=false:=by simp;exact fun e=>h e.symm
   have ih:=bump_lookup m s
   simp [bump,cnt,List.lookup,h,hs]
   simpa [cnt] using ih
theorem cnt_val (m:Mp) (s:Bs):(cond false (.tup [((m.lookup s).map iv).getD (zeroA ty3),bv ((m.lookup s).map iv).isSome]) (((m.lookup s).map iv).getD (zeroA ty3)))=iv (cnt m s):=by
 unfold cnt
 cases m.lookup s<;>rfl
def lineE (m met:Mp) (n:Nat) (c:Bs):Int :=
 cond (!ended c||(isLab (bare c) && !nameP (labName (bare c)))) 12
  (cond (isLab (bare c)&&decide (cnt met (bare c)+1 > 1)) 11
   (cond (isLab (bare c)) 0 (cond (decide ((instrP m (bare c)).2=0)) (cond (decide (n=1000)) 2 0) (instrP m (bare c)).2)))
def lineC (m:Mp) (cd:List Ins) (c:Bs):List Ins:=cond (isLab (bare c)) cd (cd++[(instrP m (bare c)).1])
def pSt (m:Mp) (cs:List Bs) (k:Nat):Mp × List Ins:=(cs.take k).foldl (fun st c=>(bump st.1 (bare c),lineC m st.2 c)) ([],[])
def pE (m:Mp) (cs:List Bs) (k:Nat):Int:=match cs[k]? with|some c=>lineE m (pSt m cs k).1 (pSt m cs k).2.length c|none=>0
theorem pSt_succ {m:Mp} {cs:List Bs} {k:Nat} (h:k < cs.length):pSt m cs (k+1)=(bump (pSt m cs k).1 (bare cs[k]),lineC m (pSt m cs k).2 cs[k]):=by
 unfold pSt
 rw [List.take_succ_eq_append_getElem h,List.foldl_append];rfl
def bad1 (e:Nat→Int):Nat→Option Nat
 | 0=>none
 | n+1=>match bad1 e n with|some k=>some k|none=>cond (decide (e n=0)) none (some n)
def parseP (s : Bs) : List Ins × Int × Int :=
  cond (decide (s.length > 40000)) ([], 0, 2)
    (match bad1 (pE (labels s) (chunks s)) (chunks s).length with
     | some k => ([], (k : Int) + 1, pE (labels s) (chunks s) k)
     | none => ((pSt (labels s) (chunks s) (chunks s).length).2, 0, 0))
theorem bad1_none {e:Nat→Int}:∀ {n:Nat},(∀ q,q < n→e q=0)→bad1 e n=none
 | 0,_=>rfl
 | n+1,h=>by simp [bad1,bad1_none (n:=n) fun q hq=>h q (by omega),h n (by omega)]
theorem bad1_some {e:Nat→Int} {k:Nat} (h:∀ q,q < k→e q=0) (hk:e k≠0):∀ {n:Nat},k < n→bad1 e n=some k
 | 0,hn=>by omega
 | n+1,hn=>by
  by_cases hkn:k=n
  ·subst hkn
   simp [bad1,bad1_none h,hk]
  ·simp [bad1,bad1_some h hk (n:=n) (by omega)]
theorem pSt_le (m:Mp) (cs:List Bs):∀ k,k≤cs.length→(∀ t,0≤cnt (pSt m cs k).1 t∧cnt (pSt m cs k).1 t≤k)∧(pSt m cs k).2.length≤k
 | 0,_=>⟨fun t=>⟨Int.le_refl _,Int.le_refl _⟩,Nat.le_refl _⟩
 | k+1,hk=>by
  obtain ⟨i1,i2⟩:=pSt_le m cs k (by omega)
  rw [pSt_succ (show k < cs.length by omega)]
  refine ⟨fun t=>?_,?_⟩
  ·rw [bump_cnt]
   have a:=i1 (bare cs[k]);have b:=i1 t
   cases decide (bare cs[k]=t)<;>simp<;>omega
  ·unfold lineC
   cases isLab (bare cs[k])<;>simp<;>omega
theorem fin_arr {H Ho:List AObj} {n j g es:Nat} {t:TypeId} {xs rest rest':List AVal} (hn:kap n [] j=none) (hj:H[j]? = some (.arr g t es xs)) (hr:finL (kap n []) H true rest=some rest') (ht:finOs (kap n []) H true (H.take n)=some Ho) :
  finish n [] true H (.tup (.arr j g::rest))=some (.tup (.sl xs::rest'),Ho):=by
 simp [finish,finV,finL,hn,hj,hr,picks,ht]
def ord23:List (List Nat):=[[0,1,2,3,4],[0,2,1,3,4],[0,2,3,1,4],[1,0,2,3,4],[1,2,0,3,4],[2,0,1,3,4],[2,0,3,1,4],[2,1,0,3,4]]
def encIs (l:List Ins):AVal:=.sl (l.map encIns)
def pH (g:Gl) (s:Bs) (l:Nat) (c:LoopS) (k:Nat):List AObj :=
 gls g++[.box 24 [.slf []],.box 3 [iv 0],.box 34 [iv 0],.vmap (encM (labels s)),.box 186 [.mp 7],.map (rdF 8),.box 188 [.mp 9],
  .vmap (encM (pSt (labels s) (chunks s) k).1),.box 186 [.mp 11],.box 24 [.arr 16 ((pSt (labels s) (chunks s) k).2.length+1)],.box 3 [iv k],.box 9 [sv (restAt s k)],
  .arr ((pSt (labels s) (chunks s) k).2.length+1) 176 4 ((pSt (labels s) (chunks s) k).2.map encIns),.loop l .ready none c [.ptr 4 0,.ptr 5 0,.ptr 6 0,.ptr 10 0,.ptr 12 0,.ptr 13 0,.ptr 14 0]]
theorem parse_ok (g:Gl) (s:Bs) (hs:s.length≤1000000):ACalls Tryz.prog 82 [sv s] (gls g) (one (.tup [encIs (parseP s).1,iv (parseP s).2.1,iv (parseP s).2.2]) (gls g)):=by
 have hl:=labels_ok s hs
 have hr:=readers_ok (labels s)
 have hln:=lines_ok s
 unfold parseP
 have hsz:((ByteArray.size ⟨s.toArray⟩:Int) > 40000)=(s.length > 40000):=by
  rw [show ByteArray.size ⟨s.toArray⟩=s.length from rfl];apply propext;omega
 by_cases h4:s.length > 40000
 ·rw [decide_eq_true h4]
  have hd:decide ((ByteArray.size ⟨s.toArray⟩:Int) > 40000)=true:=decide_eq_true (hsz ▸ h4)
  refine jC Tryz.func82 Tryz.ntmps82 (fun w0 β0 ext hβ=>?_)
  repeat (first|refine jS ?_|refine jD ?_|refine jB ?_)
  rw [hd]
  repeat (first|refine jS ?_|refine jD ?_|refine jB ?_)
  exact jR
 ·rw [decide_eq_false h4]
  have hd:decide ((ByteArray.size ⟨s.toArray⟩:Int) > 40000)=false:=decide_eq_false (hsz ▸ h4)
  refine jC Tryz.func82 Tryz.ntmps82 (fun w0 β0 ext hβ=>?_)
  repeat (first|refine jS ?_|refine jD ?_|refine jB ?_)
  rw [hd]
  repeat (first|refine jS ?_|refine jD ?_|refine jB ?_)
  refine jBb [] hl ?_
  repeat (first|refine jS ?_|refine jD ?_|refine jB ?_)
  refine jBb [7] hr ?_
  repeat (first|refine jS ?_|refine jD ?_|refine jB ?_|refine jo rfl rfl (map_newV) rfl rfl ?_)
  refine jBb [] hln ?_
  repeat (first|refine jS ?_|refine jD ?_|refine jB ?_)
  refine jadB 13 0 176 4 rfl rfl rfl rfl ?_
  refine jrange [2,3,4,6,7,8,9] rfl rfl rfl (fun l c c1 c2 c3 c4 c5=>?_)
  have hc:=lines1_ok l 15 s hs (pH g s l c) (fun k=>∀ q,q < k→pE (labels s) (chunks s) q=0) (fun q h=>absurd h (by omega))
   (fun H'=>∃ k,k < (chunks s).length∧(∀ q,q < k→pE (labels s) (chunks s) q=0)∧pE (labels s) (chunks s) k≠0∧∃ o7 o8 o9 o10 o11 o12 o13 o14 o15 o16,H'=gls g++[.box 24 [.slf []],.box 3 [iv (IntKind.i64.wrap ((k:Int)+1))],.box 34 [iv (pE (labels s) (chunks s) k)],o7,o8,o9,o10,o11,o12,o13,o14,o15,o16,.loop l .done (some .ret) c [.ptr 4 0,.ptr 5 0,.ptr 6 0,.ptr 10 0,.ptr 12 0,.ptr 13 0,.ptr 14 0]])
   (fun k _=>rfl) (fun k hk hok=>?_)
  ·refine ⟨_,hc,fun r H' hres=>?_⟩
   obtain ⟨rfl,⟨rfl,hok⟩|⟨k,hk,hok,hbad,o7,o8,o9,o10,o11,o12,o13,o14,o15,o16,rfl⟩⟩:=hres
   ·refine ⟨_,.ready,none,_,.normal,rfl,rfl,by decide,rfl,?_⟩
    rw [bad1_none hok]
    repeat (first|refine jS ?_|refine jD ?_|refine jB ?_)
    exact jr rfl (fin_arr rfl rfl rfl rfl) rfl rfl
   ·refine ⟨_,.done,some .ret,_,.ret,rfl,rfl,by decide,rfl,?_⟩
    rw [bad1_some hok hbad hk,wrap_id (n:=(k:Int)+1) (by have:=chunks_len s;omega) (by have:=chunks_len s;omega)]
    repeat (first|refine jS ?_|refine jD ?_|refine jB ?_)
    exact jR
  ·refine jround (ts:=[2,3,4,6,7,8,9]) c1 c2 c3 c4 c5 (j:=17) rfl rfl rfl (fun w1 β1 ext1 hβ1=>?_)
   clear c1 c2 c3 c4 c5
   have hcl:=chunks_len s
   have hkl:=chunk_len s hk
   have hst:=pSt_succ (m:=labels s) hk
   have hle:=pSt_le (labels s) (chunks s) k (by omega)
   have hE:pE (labels s) (chunks s) k=lineE (labels s) (pSt (labels s) (chunks s) k).1 (pSt (labels s) (chunks s) k).2.length (chunks s)[k]:=by simp [pE,List.getElem?_eq_getElem hk]
   have hnx:=idx_next hk (by omega)
   have hbl:=bare_len (chunks s)[k]
   have hcu:=cutSuffix_ok ((chunks s)[k]) [10] (by omega)
   have hcu2:=cutSuffix_ok (bare (chunks s)[k]) [58] (by omega)
   have hnm:=isName_ok (labName (bare (chunks s)[k]))
   have hins:=instr_ok g (labels s) (bare (chunks s)[k]) (by omega)
   have hnext:pE (labels s) (chunks s) k=0→∀ q,q < k+1→pE (labels s) (chunks s) q=0:=fun h0 q hq=>by
    by_cases hqk:q=k
    ·subst hqk;exact h0
    ·exact hok q (by omega)
   have hpk:pH g s l c (k+1)=gls g++[.box 24 [.slf []],.box 3 [iv 0],.box 34 [iv 0],.vmap (encM (labels s)),.box 186 [.mp 7],.map (rdF 8),.box 188 [.mp 9],
     .vmap (encM (bump (pSt (labels s) (chunks s) k).1 (bare (chunks s)[k]))),.box 186 [.mp 11],.box 24 [.arr 16 ((lineC (labels s) (pSt (labels s) (chunks s) k).2 (chunks s)[k]).length+1)],.box 3 [iv (IntKind.i64.wrap ((k:Int)+1))],.box 9 [sv (restAt s (k+1))],
     .arr ((lineC (labels s) (pSt (labels s) (chunks s) k).2 (chunks s)[k]).length+1) 176 4 ((lineC (labels s) (pSt (labels s) (chunks s) k).2 (chunks s)[k]).map encIns),.loop l .ready none c [.ptr 4 0,.ptr 5 0,.ptr 6 0,.ptr 10 0,.ptr 12 0,.ptr 13 0,.ptr 14 0]]:=by
    unfold pH
    rw [hst,hnx]
   rw [hpk]
   unfold pH
   rw [hE] at hnext
   generalize hstk:pSt (labels s) (chunks s) k=st at *
   obtain ⟨met,cd⟩:=st
   have hf:=encM_find met (bare (chunks s)[k])
   have hks:=encM_keys met
   have hpu:=bump_put met (bare (chunks s)[k])
   have hval:=cnt_val met (bare (chunks s)[k])
   have hf2:=encM_find (bump met (bare (chunks s)[k])) (bare (chunks s)[k])
   have hks2:=encM_keys (bump met (bare (chunks s)[k]))
   rw [bump_lookup] at hf2
   have hcn:=hle.1 (bare (chunks s)[k])
   simp only at hcn
   have hadd:IntKind.i64.wrap (cnt met (bare (chunks s)[k])+1)=cnt met (bare (chunks s)[k])+1:=wrap_id (by omega) (by omega)
   rw [←hadd] at hpu
   clear hst hl hr hln hstk
   rw [show Lib.trimSuffix (chunks s)[k] [10]=bare (chunks s)[k] from rfl] at hcu
   rw [show Lib.trimSuffix (bare (chunks s)[k]) [58]=labName (bare (chunks s)[k]) from rfl] at hcu2
   unfold lineC
   unfold lineE ended at hE hnext
   unfold isLab at hE hnext ⊢
   generalize restAt s (k+1)=rr
   generalize restAt s k=rk
   generalize Lib.hasSuffix (chunks s)[k] [10]=e at *
   generalize Lib.hasSuffix (bare (chunks s)[k]) [58]=lab at *
   generalize nameP (labName (bare (chunks s)[k]))=nm at *
   generalize labName (bare (chunks s)[k])=lname at *
   generalize instrP (labels s) (bare (chunks s)[k])=ip at *
   obtain ⟨ins,bad⟩:=ip
   simp only at hE hnext hins
   unfold sv bv at hcu hcu2 hnm
   generalize bare (chunks s)[k]=b at *
   generalize (chunks s)[k]=ch at *
   repeat (first|refine jS ?_|refine jD ?_|refine jB ?_)
   refine jlp ⟨rfl,?_⟩
   repeat (first|refine jS ?_|refine jD ?_|refine jB ?_|refine jV hcu ?_|refine jV hcu2 ?_|refine jo rfl rfl (map_get rfl rfl rfl rfl rfl rfl rfl rfl rfl trivial hks hf hval) rfl rfl ?_|refine jo rfl rfl (map_put (mo':=.vmap (encM (bump met b))) (.inl rfl) rfl rfl rfl rfl rfl rfl rfl rfl rfl trivial hks hpu rfl) rfl rfl ?_)
   have hcd:cd.length≤k:=hle.2
   cases e
   ·simp only [Bool.not_false,Bool.true_or,cond_true] at hE
    repeat (first|refine jS ?_|refine jB ?_)
    refine jord2 (L1:=[0,1,2,3]) (L2:=[1,0,2,3]) (by kernel_rfl) rfl rfl ?_ ?_
    all_goals (
     repeat (first|refine jS ?_|refine jB ?_)
    )
    all_goals refine jrendW false (some .ret) rfl rfl rfl rfl (.inr ⟨rfl,k,hk,hok,by rw [hE];decide,?_⟩)
    all_goals rw [hE]
    all_goals exact ⟨_,_,_,_,_,_,_,_,_,_,rfl⟩
   ·cases lab
    ·simp only [Bool.not_true,Bool.false_or,Bool.false_and,cond_false] at hE hnext
     repeat (first|refine jS ?_|refine jD ?_|refine jB ?_)
     refine jBb [0,1,2,3,7,8,9] hins ?_
     repeat (first|refine jS ?_|refine jD ?_|refine jB ?_)
     by_cases hb0:bad=0
     ·subst hb0
      simp only [decide_true,cond_true] at hE hnext
      repeat (first|refine jS ?_|refine jB ?_|refine jo rfl rfl (len_arr rfl rfl rfl rfl) rfl rfl ?_)
      have hq:(((cd.map encIns).length:Int) == 1000)=decide (cd.length=1000):=by
       rw [List.length_map,Bool.eq_iff_iff];simp;omega
      cases h1000:decide (cd.length=1000) with
      | true =>
       rw [h1000] at hE hq
       simp only [cond_true] at hE
       rw [hq]
       repeat (first|refine jS ?_|refine jB ?_)
       refine jorders (Ls:=ord23) (by kernel_rfl) (fun L hm=>?_)
       simp only [ord23,List.mem_cons,List.not_mem_nil,or_false] at hm
       rcases hm with rfl|rfl|rfl|rfl|rfl|rfl|rfl|rfl
       all_goals (
        repeat (first|refine jS ?_|refine jB ?_)
       )
       all_goals refine jrendW false (some .ret) rfl rfl rfl rfl (.inr ⟨rfl,k,hk,hok,by rw [hE];decide,?_⟩)
       all_goals rw [hE]
       all_goals exact ⟨_,_,_,_,_,_,_,_,_,_,rfl⟩
      | false =>
       rw [h1000] at hnext hq
       rw [hq]
       repeat (first|refine jo rfl rfl (append_enc (enc:=encIns) (l:=cd) ins rfl rfl rfl rfl rfl rfl rfl rfl rfl rfl (fun _=>⟨rfl,rfl⟩) rfl (by omega) rfl rfl) rfl rfl ?_|refine jS ?_|refine jB ?_)
       refine jrendW false none rfl rfl rfl rfl (.inl ⟨rfl,?_,hnext rfl⟩)
       have e1:(cond false cd (cd++[ins])).length=cd.length+1:=by simp
       simp only [cond_false,List.length_append]
       rfl
     ·have e0:(bad == 0)=false:=by simpa using hb0
      have e1:(bad != 0)=true:=by simpa using hb0
      rw [decide_eq_false hb0] at hE
      simp only [cond_false] at hE
      rw [e0]
      repeat (first|refine jS ?_|refine jD ?_|refine jB ?_)
      rw [e1]
      repeat (first|refine jS ?_|refine jB ?_)
      refine jorders (Ls:=ord23) (by kernel_rfl) (fun L hm=>?_)
      simp only [ord23,List.mem_cons,List.not_mem_nil,or_false] at hm
      rcases hm with rfl|rfl|rfl|rfl|rfl|rfl|rfl|rfl
      all_goals (
       repeat (first|refine jS ?_|refine jB ?_)
      )
      all_goals refine jrendW false (some .ret) rfl rfl rfl rfl (.inr ⟨rfl,k,hk,hok,by rw [hE];exact hb0,?_⟩)
      all_goals rw [hE]
      all_goals exact ⟨_,_,_,_,_,_,_,_,_,_,rfl⟩
    ·cases nm
     ·simp only [Bool.not_true,Bool.not_false,Bool.false_or,Bool.true_and,Bool.and_self,cond_true] at hE
      repeat (first|refine jS ?_|refine jB ?_|refine jV hnm ?_)
      refine jord2 (L1:=[0,1,2,3]) (L2:=[1,0,2,3]) (by kernel_rfl) rfl rfl ?_ ?_
      all_goals (
       repeat (first|refine jS ?_|refine jB ?_)
      )
      all_goals refine jrendW false (some .ret) rfl rfl rfl rfl (.inr ⟨rfl,k,hk,hok,by rw [hE];decide,?_⟩)
      all_goals rw [hE]
      all_goals exact ⟨_,_,_,_,_,_,_,_,_,_,rfl⟩
     ·simp only [Bool.not_true,Bool.false_or,Bool.true_and,Bool.and_false,cond_false,cond_true] at hE hnext
      repeat (first|refine jS ?_|refine jD ?_|refine jB ?_|refine jV hnm ?_|refine jo rfl rfl (map_get rfl rfl rfl rfl rfl rfl rfl rfl rfl trivial hks2 hf2 rfl) rfl rfl ?_)
      cases hc1:decide (cnt met b+1 > 1) with
      | true =>
       rw [hc1] at hE
       simp only [cond_true] at hE
       repeat (first|refine jS ?_|refine jB ?_)
       refine jord2 (L1:=[0,1,2,3]) (L2:=[1,0,2,3]) (by kernel_rfl) rfl rfl ?_ ?_
       all_goals (
        repeat (first|refine jS ?_|refine jB ?_)
       )
       all_goals refine jrendW false (some .ret) rfl rfl rfl rfl (.inr ⟨rfl,k,hk,hok,by rw [hE];decide,?_⟩)
       all_goals rw [hE]
       all_goals exact ⟨_,_,_,_,_,_,_,_,_,_,rfl⟩
      | false =>
       rw [hc1] at hnext
       repeat (first|refine jS ?_|refine jD ?_|refine jB ?_)
       exact jrendW false none rfl rfl rfl rfl (.inl ⟨rfl,rfl,hnext rfl⟩)
end Go.AL
end
section
set_option maxRecDepth 100000
namespace Go.AL
open Go Go.Proofs
attribute [local irreducible] J
section
variable {P:Program} [T:TyTab P] {F:Fr} {H:List AObj} {dst:Option Tmp} {t:TypeId} {x o o':Operand} {type:TypeId} {pos:String} {after:Array Edge} {guard:Option (Nat × Bool)} {s:Bs} {r':TyRow}
end
def spSt (c:UInt8) (s:Bs):Nat→List Bs × Nat
 | 0=>([],0)
 | i+1=>cond (decide (s.getD i 0=c)) ((spSt c s i).1++[(s.take i).drop (spSt c s i).2],i+1) (spSt c s i)
def rsplit (c:UInt8) (s:Bs):List Bs:=(spSt c s s.length).1++[s.drop (spSt c s s.length).2]
theorem spSt_le (c:UInt8) (s:Bs):∀ i,(spSt c s i).2≤i∧(spSt c s i).1.length≤i
 | 0=>⟨Nat.le_refl _,Nat.le_refl _⟩
 | i+1=>by
  have ih:=spSt_le c s i
  unfold spSt
  cases decide (s.getD i 0=c)<;>simp<;>omega
def rlab (s:Bs):Bool:=match s.getLast? with|some c=>decide (c=58)|none=>false
end Go.AL
end
section
set_option maxRecDepth 100000
namespace Go.AL
open Go Go.Proofs
attribute [local irreducible] J
def azn (c:UInt8):Bool:=!((decide ((c.toNat:Int) < 97)||decide ((c.toNat:Int) > 122))&&(decide ((c.toNat:Int) < 48)||decide ((c.toNat:Int) > 57)))
def rname (s:Bs):Bool:=match s with
 | []=>false
 | c::r=>decide (r.length+1≤12) && !decide ((c.toNat:Int) < 97) && !decide ((c.toNat:Int) > 122)&&(c::r).all azn
end Go.AL
end
section
set_option maxRecDepth 100000
namespace Go.AL
open Go Go.Proofs
attribute [local irreducible] J
def isDig (c:UInt8):Bool:=!(decide ((c.toNat:Int) < 48)||decide ((c.toNat:Int) > 57))
def dsum (t:Bs) (i:Nat):Int:=(t.take i).foldl (fun n c=>10*n+((c.toNat:Int)-48)) 0
def rnumT (bl:Bool) (t:Bs):Int × Bool :=
 match t with
 | []=>(0,false)
 | c::r=>cond (decide (r.length+1 > 10)||(decide (c=48)&&(decide (r.length+1 > 1)||bl))) (0,false)
   (cond ((c::r).all isDig) (cond (decide (dsum (c::r) (r.length+1) > 1000000000)) (0,false) (cond bl (0-dsum (c::r) (r.length+1)) (dsum (c::r) (r.length+1)),true)) (0,false))
def rnum (s:Bs):Int × Bool :=
 match s with
 | []=>(0,false)
 | c::r=>cond (decide (c=45)) (rnumT true r) (rnumT false (c::r))
end Go.AL
end
section
set_option maxRecDepth 100000
namespace Go.AL
open Go Go.Proofs
attribute [local irreducible] J
theorem cat_str {P:Program} {F:Fr} {H:List AObj} {dst:Option Tmp} {t yt:TypeId} {x y:Operand} {type:TypeId} {pos:String} {after:Array Edge} {guard:Option (Nat × Bool)} {a b:Bs} (hx:ev F x=some (sv a)) (hy:ev F y=some (sv b)) (hl:a.length+b.length≤1000000000) :
  DSem P .p ⟨dst,.binOp .add t x y yt,type,pos,after,guard⟩ F H (sv (a++b)) H:=by
 refine ⟨rfl,fun H'=>Says.sem (says_bin hx hy (fun c u u' w r1 r2=>?_) ⟨_,rfl⟩) H'⟩
 cases (show u=S a from r1);cases (show u'=S b from r2)
 have hsz:¬(((ByteArray.size ⟨a.toArray⟩+ByteArray.size ⟨b.toArray⟩:Nat):Int) > IntKind.i64.max):=by
  rw [show ByteArray.size ⟨a.toArray⟩=a.length from rfl,show ByteArray.size ⟨b.toArray⟩=b.length from rfl,show IntKind.i64.max=9223372036854775807 from rfl]
  omega
 have hc:((⟨a.toArray⟩:ByteArray)++⟨b.toArray⟩)=⟨(a++b).toArray⟩:=by
  apply ByteArray.ext
  simp
 unfold S
 simp only [Sem.run_bind,run_eqGuard_string,Result.andThen_ok]
 simp only [binOp,Op.stringOp,if_neg hsz,hc]
 rfl
def nl (ls:List Bs) (i:Nat):Int:=(((ls.take i).filter fun l=>!rlab l).length:Nat)
theorem nl_succ {ls:List Bs} {i:Nat} (h:i < ls.length):nl ls (i+1)=cond (rlab ls[i]) (nl ls i) (nl ls i+1):=by
 unfold nl
 rw [List.take_succ_eq_append_getElem h,List.filter_append,List.length_append]
 cases hr:rlab ls[i]<;>simp [hr]
theorem nl_le (ls:List Bs) (i:Nat):0≤nl ls i∧nl ls i≤i:=by
 unfold nl
 have:=List.length_filter_le (fun l=>!rlab l) (ls.take i)
 rw [List.length_take] at this
 omega
def rtarget (ls:List Bs) (s:Bs):Int × Bool:=match ls.findIdx? (fun l=>decide (l=s++[58])) with|some i=>(nl ls i,true)|none=>(0,false)
end Go.AL
end
section
set_option maxRecDepth 100000
namespace Go.AL
open Go Go.Proofs
attribute [local irreducible] J
def ropN (s:Bs):Int × Int:=cond (rnum s).2 ((rnum s).1,0) (0,3)
def ropT (ls:List Bs) (s:Bs):Int × Int:=cond (rname s) (cond (rtarget ls s).2 ((rtarget ls s).1,0) (0,11)) (0,3)
def rop (ls:List Bs) (k:UInt8) (s:Bs):Int × Int:=cond (decide (k=114)) (rdR s) (cond (decide (k=110)) (ropN s) (ropT ls s))
end Go.AL
end
section
set_option maxRecDepth 100000
namespace Go.AL
open Go Go.Proofs
attribute [local irreducible] J
def opK:List Bs:=opsT.map (·.2)
def rAll (ls:List Bs):Bs→List Bs→List Int × Int
 | c::cs,w::ws=>cond (decide ((rop ls c w).2=0)) (((rop ls c w).1::(rAll ls cs ws).1),(rAll ls cs ws).2) ([],(rop ls c w).2)
 | _,_=>([],0)
def rinstrK (ls:List Bs) (op:Int) (kd:Bs) (ws:List Bs) (n:Int):Ins × Int :=
 cond (decide (ws.length=kd.length)) (cond (decide ((rAll ls kd ws).2=0)) (cond (decide (n≥1000)) (default,2) (⟨op,(rAll ls kd ws).1.getD 0 0,(rAll ls kd ws).1.getD 1 0,(rAll ls kd ws).1.getD 2 0⟩,0)) (default,(rAll ls kd ws).2)) (default,12)
def rinstr (ls:List Bs) (s:Bs) (n:Int):Ins × Int :=
 match rsplit 32 s with
 | []=>(default,10)
 | w::ws=>cond (decide (findOp w < 0)) (default,10) (rinstrK ls (findOp w) (at' opK (findOp w)) ws n)
theorem rAll_ok (ls:List Bs):∀ (kd:Bs) (ws:List Bs),ws.length=kd.length→(∀ q,q < kd.length→(rop ls (kd.getD q 0) (ws.getD q [])).2=0) →
  (rAll ls kd ws).2=0∧∀ q,q < kd.length→(rAll ls kd ws).1.getD q 0=(rop ls (kd.getD q 0) (ws.getD q [])).1
 | [],ws,_,_=>⟨by simp [rAll],fun q h=>absurd h (by simp)⟩
 | c::kd,[],h,_=>by simp at h
 | c::kd,w::ws,h,ha=>by
  have h0:=ha 0 (by simp)
  simp at h0
  obtain ⟨i1,i2⟩:=rAll_ok ls kd ws (by simpa using h) fun q hq=>by simpa using ha (q+1) (by simpa using hq)
  have e:rAll ls (c::kd) (w::ws)=((rop ls c w).1::(rAll ls kd ws).1,(rAll ls kd ws).2):=by simp [rAll,h0]
  rw [e]
  refine ⟨i1,fun q hq=>?_⟩
  cases q with
  | zero=>simp
  | succ q=>simpa using i2 q (by simpa using hq)
theorem rAll_len (ls:List Bs):∀ (kd:Bs) (ws:List Bs),(rAll ls kd ws).1.length≤kd.length
 | [],ws=>by simp [rAll]
 | c::kd,[]=>by simp [rAll]
 | c::kd,w::ws=>by
  have:=rAll_len ls kd ws
  simp only [rAll]
  cases decide ((rop ls c w).2=0)<;>simp<;>omega
theorem opK_at (k:Nat) (hk:k < 27):at' opK (k:Int)=(at' opsT (k:Int)).2:=by
 have h1:k < opK.length:=hk
 have h2:k < opsT.length:=hk
 rw [at_nat opK k h1,at_nat opsT k h2]
 simp [opK]
end Go.AL
end
section
set_option maxRecDepth 100000
namespace Go.AL
open Go Go.Proofs
attribute [local irreducible] J
def rpSt (ls:List Bs) (k:Nat):List Ins:=(ls.take k).foldl (fun cd l=>cond (rlab l) cd (cd++[(rinstr ls l cd.length).1])) []
def rpE (ls:List Bs) (k:Nat):Int:=cond (rlab (ls.getD k [])) (cond (rname (ls.getD k []).dropLast) (cond ((ls.take k).any fun l=>decide (l=ls.getD k [])) 11 0) 12) (rinstr ls (ls.getD k []) (rpSt ls k).length).2
def rlines (s:Bs):List Bs:=(rsplit 10 s).dropLast
def rparse (s : Bs) : List Ins × Int × Int :=
  cond (decide (s.length > 40000)) ([], 0, 2)
    (match bad1 (rpE (rlines s)) (rlines s).length with
     | some k => ([], (k : Int) + 1, rpE (rlines s) k)
     | none => cond (decide ((rsplit 10 s).getLast? = some [])) (rpSt (rlines s) (rlines s).length, 0, 0) ([], ((rsplit 10 s).length : Int), 12))
theorem rpSt_succ {ls:List Bs} {k:Nat} (h:k < ls.length):rpSt ls (k+1)=cond (rlab ls[k]) (rpSt ls k) (rpSt ls k++[(rinstr ls ls[k] (rpSt ls k).length).1]):=by
 unfold rpSt
 rw [List.take_succ_eq_append_getElem h,List.foldl_append];rfl
end Go.AL
end
section
set_option maxRecDepth 100000
namespace Go.AL
open Go Go.Proofs
attribute [local irreducible] J
end Go.AL
end
section
namespace Go.AL
open Go Go.Proofs
def consH (p:Bs):List Bs→List Bs
 | []=>[p]
 | h::t=>(p++h)::t
def cuts (c:UInt8):Bs→List Bs
 | []=>[[]]
 | b::r=>if b=c then []::cuts c r else consH [b] (cuts c r)
theorem consH_ne (p:Bs) (l:List Bs):consH p l≠[]:=by cases l<;>simp [consH]
theorem cuts_ne (c : UInt8) (s : Bs) : cuts c s ≠ [] := by
  cases s with
  | nil => simp [cuts]
  | cons b r => unfold cuts; split; · simp
                · exact consH_ne _ _
theorem consH_nil {l:List Bs} (h:l≠[]):consH [] l=l:=by
 cases l with
 | nil=>exact absurd rfl h
 | cons a t=>rfl
theorem consH_consH (p q:Bs) (l:List Bs):consH p (consH q l)=consH (p++q) l:=by
 cases l<;>simp [consH]
theorem rsplit_inv (c:UInt8) (s:Bs):∀ i,i≤s.length→cuts c s=(spSt c s i).1++consH ((s.take i).drop (spSt c s i).2) (cuts c (s.drop i))
 | 0,_=>by simp [spSt,consH_nil (cuts_ne c s)]
 | i+1,h=>by
  have ih:=rsplit_inv c s i (by omega)
  have hi:i < s.length:=by omega
  have hle:=(spSt_le c s i).1
  have hg:s.getD i 0=s[i]:=by simp [List.getD,hi]
  rw [List.drop_eq_getElem_cons hi] at ih
  rw [ih,show spSt c s (i+1)=cond (decide (s.getD i 0=c)) ((spSt c s i).1++[(s.take i).drop (spSt c s i).2],i+1) (spSt c s i) from rfl]
  rw [hg]
  rw [cuts]
  by_cases hb:s[i]=c
  ·rw [if_pos hb,decide_eq_true hb]
   simp only [cond_true]
   rw [show (s.take (i+1)).drop (i+1)=[] from by rw [List.drop_eq_nil_iff];rw [List.length_take];omega,consH_nil (cuts_ne _ _)]
   simp [consH]
  ·rw [if_neg hb,decide_eq_false hb]
   simp only [cond_false]
   rw [consH_consH,List.take_succ_eq_append_getElem hi,List.drop_append_of_le_length (by rw [List.length_take];omega)]
theorem rsplit_eq (c:UInt8) (s:Bs):rsplit c s=cuts c s:=by
 have:=rsplit_inv c s s.length (Nat.le_refl _)
 rw [this]
 simp [rsplit,cuts,consH]
theorem index1_cons (b c:UInt8) (l:Bs):Lib.index (b::l) [c]=if b=c then 0 else if Lib.index l [c] = -1 then -1 else Lib.index l [c]+1:=by
 rw [Lib.index]
 by_cases h:b=c
 ·simp [h,List.isPrefixOf]
 ·have:¬c=b:=fun e=>h e.symm
  simp [h,this,List.isPrefixOf]
theorem splitK_cons (b c:UInt8) (l:Bs) (h:¬b=c) (k:Nat):Lib.splitK [c] 0 k (b::l)=consH [b] (Lib.splitK [c] 0 k l):=by
 cases k with
 | zero=>rfl
 | succ k =>
  have hge:=Lib.index_ge l [c]
  rw [Lib.splitK,Lib.splitK,index1_cons,if_neg h]
  by_cases h1:Lib.index l [c] = -1
  ·simp [h1,consH]
  ·have e1:(Lib.index l [c]+1 == -1)=false:=by simp;omega
   have e2:(Lib.index l [c] == -1)=false:=by simp [h1]
   have e3:(Lib.index l [c]+1).toNat=(Lib.index l [c]).toNat+1:=by omega
   rw [if_neg h1,e1,e2,e3]
   simp [consH]
theorem splitK_eq (c:UInt8):∀ (s:Bs) (k:Nat),s.count c≤k→Lib.splitK [c] 0 k s=cuts c s
 | [],k,_=>by
  cases k with
  | zero=>rfl
  | succ k=>simp [Lib.splitK,Lib.index,cuts]
 | b::l,k,h=>by
  rw [cuts]
  by_cases hb:b=c
  ·subst hb
   rw [List.count_cons_self] at h
   rw [if_pos rfl]
   cases k with
   | zero=>omega
   | succ k =>
    rw [←splitK_eq b l k (by omega),Lib.splitK,index1_cons,if_pos rfl]
    simp
  ·rw [if_neg hb,splitK_cons b c l hb,splitK_eq c l k (by rw [List.count_cons_of_ne (by simpa using hb)] at h;exact h)]
theorem countFrom_ge (c:UInt8):∀ (n:Nat) (s:Bs),s.length≤n→∀ f,n < f→s.count c≤Lib.countFrom [c] f s
 | n,[],_,f,_=>by simp
 | 0,b::l,h,f,_=>by simp at h
 | n+1,b::l,h,f,hf=>by
  cases f with
  | zero=>omega
  | succ f =>
   rw [Lib.countFrom,index1_cons]
   have hl:l.length≤n:=by simpa using h
   by_cases hb:b=c
   ·subst hb
    rw [if_pos rfl,List.count_cons_self]
    have:=countFrom_ge b n l hl f (by omega)
    simp
    omega
   ·rw [if_neg hb,List.count_cons_of_ne (by simpa using hb)]
    have ih:=countFrom_ge c n l hl (f+1) (by omega)
    rw [Lib.countFrom] at ih
    have hge:=Lib.index_ge l [c]
    by_cases h1:Lib.index l [c] = -1
    ·simpa [h1] using ih
    ·have e1:(Lib.index l [c]+1 == -1)=false:=by simp;omega
     have e2:(Lib.index l [c] == -1)=false:=by simp [h1]
     have e3:(Lib.index l [c]+1).toNat=(Lib.index l [c]).toNat+1:=by omega
     rw [e2] at ih
     rw [if_neg h1,e1,e3]
     simpa using ih
theorem split_eq (c:UInt8) (s:Bs):Lib.split s [c]=cuts c s :=
 splitK_eq c s _ (countFrom_ge c s.length s (Nat.le_refl _) _ (by omega))
end Go.AL
end
section
namespace Go.AL
open Go Go.Proofs
theorem notN_azn (c:UInt8):notN c.toNat = !azn c:=by
 have:∀ x:Fin 256,notN x.val = !(!((decide ((x.val:Int) < 97)||decide ((x.val:Int) > 122))&&(decide ((x.val:Int) < 48)||decide ((x.val:Int) > 57)))):=by decide +kernel
 exact this ⟨c.toNat,c.toNat_lt⟩
theorem notN_high (r:Nat) (h:128≤r):notN r=true:=by
 unfold notN inn
 have e1:decide ((r:Int)≤122)=false:=by simp;omega
 have e2:decide ((r:Int)≤57)=false:=by simp;omega
 simp [e1,e2]
theorem azn_low {c:UInt8} (h:azn c=true):c.toNat < 128:=by
 unfold azn at h
 simp at h
 omega
theorem get_at (s:Bs) (i:Nat) (h:i < s.length):((⟨s.toArray⟩:ByteArray)[i]'h)=s[i]:=rfl
theorem idx_azn (s:Bs):∀ (f pos:Nat),s.length-pos≤f→pos≤s.length→decide (0≤Lib.idxFuncFrom notN true ⟨s.toArray⟩ f pos) = !((s.drop pos).all azn)
 | 0,pos,h,hp=>by
  rw [List.drop_of_length_le (by omega)];rfl
 | f+1,pos,h,hp=>by
  unfold Lib.idxFuncFrom
  have hsz:(⟨s.toArray⟩:ByteArray).size=s.length:=rfl
  by_cases hlt:pos < s.length
  ·rw [if_pos (by rw [hsz];exact hlt),List.drop_eq_getElem_cons hlt,List.all_cons]
   by_cases ha:s[pos].toNat < 128
   ·have hd:=decode_ascii ⟨s.toArray⟩ pos (by rw [hsz];exact hlt) (by rw [get_at s pos hlt];exact ha)
    rw [hd,get_at s pos hlt]
    simp only
    rw [notN_azn]
    cases hz:azn s[pos]
    ·simp
    ·have ih:=idx_azn s f (pos+1) (by omega) (by omega)
     simp only [Bool.not_true,Bool.true_and]
     rw [←ih]
     simp
   ·have hd:=decode_high ⟨s.toArray⟩ pos (by rw [hsz];exact hlt) (by rw [get_at s pos hlt];omega)
    rw [notN_high _ hd.1]
    have:azn s[pos]=false:=by
     cases hz:azn s[pos]
     ·rfl
     ·exact absurd (azn_low hz) ha
    rw [this]
    simp
  ·rw [if_neg (by rw [hsz];exact hlt),List.drop_of_length_le (by omega)];rfl
theorem name_eq (s:Bs):nameP s=rname s:=by
 cases s with
 | nil=>rfl
 | cons c r =>
  show (inn (r.length+1:Nat) 1 12&&(inn c.toNat 97 122 && !decide (0≤Lib.idxFunc notN true ⟨(c::r).toArray⟩)))=(decide (r.length+1≤12) && !decide ((c.toNat:Int) < 97) && !decide ((c.toNat:Int) > 122)&&(c::r).all azn)
  have:=idx_azn (c::r) (c::r).length 0 (by omega) (by omega)
  rw [List.drop_zero] at this
  have e:Lib.idxFunc notN true ⟨(c::r).toArray⟩=Lib.idxFuncFrom notN true ⟨(c::r).toArray⟩ (c::r).length 0:=rfl
  rw [e,this,Bool.not_not]
  generalize (c::r).all azn=z
  unfold inn
  rw [Bool.eq_iff_iff]
  cases z
  ·simp
  ·simp
   omega
end Go.AL
end
section
namespace Go.AL
open Go Go.Proofs
def dgt (c:UInt8):Bool:=decide (48≤c.toNat)&&decide (c.toNat≤57)
def dvA (a:Nat) (l:Bs):Nat:=l.foldl (fun n c=>n*10+(c.toNat-48)) a
theorem dvA_ge (l:Bs):∀ a,a≤dvA a l:=by
 induction l with
 | nil=>intro a;exact Nat.le_refl _
 | cons c r ih=>intro a;have:=ih (a*10+(c.toNat-48));simp only [dvA,List.foldl_cons] at this ⊢;omega
theorem dvA_snoc (a:Nat) (l:Bs) (c:UInt8):dvA a (l++[c])=dvA a l*10+(c.toNat-48):=by simp [dvA]
theorem parse_dv:∀ (l:Bs) (a:Nat),l.all dgt=true→dvA a l < 10000000000000000000→Lib.parseUint10 a l = .ok (dvA a l)
 | [],a,_,_=>rfl
 | c::r,a,h,hb=>by
  rw [List.all_cons,Bool.and_eq_true] at h
  have hc:=h.1
  unfold dgt at hc
  simp at hc
  have hge:=dvA_ge r (a*10+(c.toNat-48))
  have e:dvA a (c::r)=dvA (a*10+(c.toNat-48)) r:=rfl
  rw [e] at hb ⊢
  rw [Lib.parseUint10,if_pos hc,if_neg (by omega),if_neg (by omega)]
  exact parse_dv r _ h.2 hb
theorem dgt_of (u:Nat) (h:u < 10):dgt (UInt8.ofNat (48+u))=true∧(UInt8.ofNat (48+u)).toNat=48+u:=by
 have e:(UInt8.ofNat (48+u)).toNat=48+u:=by rw [UInt8.toNat_ofNat'];omega
 refine ⟨?_,e⟩
 unfold dgt
 rw [e]
 simp
 omega
theorem dd_all:∀ u,(Lib.decDigits u).all dgt=true:=by
 intro u
 induction u using Nat.strongRecOn with
 | _ u ih =>
  rw [Lib.decDigits]
  split
  ·rename_i h
   simp only [List.all_cons,List.all_nil,(dgt_of u h).1,Bool.and_self]
  ·rename_i h
   rw [List.all_append,ih (u / 10) (by omega)]
   simp only [List.all_cons,List.all_nil,(dgt_of (u % 10) (by omega)).1,Bool.and_self]
theorem dd_val:∀ u,dvA 0 (Lib.decDigits u)=u:=by
 intro u
 induction u using Nat.strongRecOn with
 | _ u ih =>
  rw [Lib.decDigits]
  split
  ·rename_i h
   show 0*10+((UInt8.ofNat (48+u)).toNat-48)=u
   rw [(dgt_of u h).2]
   omega
  ·rename_i h
   rw [dvA_snoc,ih (u / 10) (by omega),(dgt_of (u % 10) (by omega)).2]
   omega
theorem dd_ne (u:Nat):Lib.decDigits u≠[]:=by
 rw [Lib.decDigits];split<;>simp
theorem dgt_back {c:UInt8} (h:dgt c=true):UInt8.ofNat (48+(c.toNat-48))=c∧c.toNat-48 < 10:=by
 unfold dgt at h
 simp at h
 refine ⟨?_,by omega⟩
 rw [show 48+(c.toNat-48)=c.toNat from by omega]
 exact UInt8.ofNat_toNat
theorem dd_canon:∀ (n:Nat) (l:Bs),l.length=n→l≠[]→l.all dgt=true→(l.head? = some 48→l.length=1)→Lib.decDigits (dvA 0 l)=l:=by
 intro n
 induction n with
 | zero=>intro l h hne;exact absurd (List.length_eq_zero_iff.1 h) hne
 | succ n ih =>
  intro l h hne ha hh
  obtain ⟨i,c,rfl⟩:∃ i c,l=i++[c]:=⟨l.dropLast,l.getLast hne,(List.dropLast_concat_getLast hne).symm⟩
  rw [List.all_append,Bool.and_eq_true] at ha
  have hc:dgt c=true:=by simpa using ha.2
  obtain ⟨hb,hl⟩:=dgt_back hc
  rw [dvA_snoc]
  cases i with
  | nil =>
   rw [show dvA 0 []*10+(c.toNat-48)=c.toNat-48 from by simp [dvA],Lib.decDigits_one hl,hb];rfl
  | cons b t =>
   have h48:b≠48:=fun e=>by
    have:=hh (by simp [e])
    simp at this
   have e:=ih (b::t) (by simpa using h) (by simp) ha.1 (fun e=>absurd (by simpa using e) h48)
   have hp:1≤dvA 0 (b::t):=by
    rcases Nat.eq_zero_or_pos (dvA 0 (b::t)) with h0|h0
    ·rw [h0,Lib.decDigits_one (by omega)] at e
     injection e with e1 e2
     exact absurd (by rw [←e1];rfl) h48
    ·exact h0
   rw [Lib.decDigits,dif_neg (by omega)]
   rw [show (dvA 0 (b::t)*10+(c.toNat-48)) / 10=dvA 0 (b::t) from by omega,show (dvA 0 (b::t)*10+(c.toNat-48)) % 10=c.toNat-48 from by omega,e,hb]
theorem dd_head:∀ u,(Lib.decDigits u).head? = some 48→u=0:=by
 intro u
 induction u using Nat.strongRecOn with
 | _ u ih =>
  intro h
  rw [Lib.decDigits] at h
  split at h
  ·rename_i h1
   have e:=(dgt_of u h1).2
   rw [List.head?_cons] at h
   injection h with h
   rw [h] at e
   have:(48:UInt8).toNat=48:=rfl
   omega
  ·rename_i h1
   have hne:=dd_ne (u / 10)
   cases hd:Lib.decDigits (u / 10) with
   | nil=>exact absurd hd hne
   | cons a t =>
    rw [hd] at h
    have:=ih (u / 10) (by omega) (by rw [hd];simpa using h)
    omega
end Go.AL
end
section
namespace Go.AL
open Go Go.Proofs
def chk:List Bs→List Bs
 | []=>[]
 | [h]=>if h=[] then [] else [h]
 | h::g::t=>(h++[10])::chk (g::t)
theorem chunks_eq:∀ s,chunks s=chk (cuts 10 s)
 | []=>rfl
 | c::r=>by
  have ih:=chunks_eq r
  have hne:=cuts_ne 10 r
  rw [chunks,cuts]
  by_cases hc:c=10
  ·rw [if_pos hc,if_pos hc,ih]
   cases hk:cuts 10 r with
   | nil=>exact absurd hk hne
   | cons a t=>rfl
  ·rw [if_neg hc,if_neg hc]
   cases hk:cuts 10 r with
   | nil=>exact absurd hk hne
   | cons a t =>
    rw [hk] at ih
    rw [ih]
    cases t with
    | nil =>
     cases a with
     | nil=>simp [chk,consH]
     | cons x y=>simp [chk,consH]
    | cons b u=>simp [chk,consH]
end Go.AL
end
section
namespace Go.AL
open Go Go.Proofs
theorem isDig_dgt (c:UInt8):isDig c=dgt c:=by
 unfold isDig dgt
 rw [Bool.eq_iff_iff]
 simp
 omega
theorem dsum_dv:∀ (l:Bs) (a:Nat),l.all dgt=true→l.foldl (fun n c=>10*n+((c.toNat:Int)-48)) (a:Int)=(dvA a l:Int)
 | [],a,_=>rfl
 | c::r,a,h=>by
  rw [List.all_cons,Bool.and_eq_true] at h
  have hc:=h.1
  unfold dgt at hc
  simp at hc
  have ih:=dsum_dv r (a*10+(c.toNat-48)) h.2
  rw [List.foldl_cons,show (10*(a:Int)+((c.toNat:Int)-48))=((a*10+(c.toNat-48):Nat):Int) from by omega,ih]
  rfl
theorem dsum_all (l:Bs) (h:l.all dgt=true):dsum l l.length=(dvA 0 l:Int):=by
 unfold dsum
 rw [List.take_length]
 exact dsum_dv l 0 h
theorem dd_len:∀ (k u:Nat),u < 10 ^ (k+1)→(Lib.decDigits u).length≤k+1
 | 0,u,h=>by rw [Lib.decDigits_one (by omega)];simp
 | k+1,u,h=>by
  rw [Lib.decDigits]
  split
  ·simp
  ·have:=dd_len k (u / 10) (by rw [Nat.pow_succ] at h;omega)
   rw [List.length_append]
   simp
   omega
def can (s:Bs) (v:Int):Prop:=s=Lib.itoa v∧-1000000000≤v∧v≤1000000000
theorem dd_first (u:Nat):∃ c r,Lib.decDigits u=c::r∧dgt c=true:=by
 cases hd:Lib.decDigits u with
 | nil=>exact absurd hd (dd_ne u)
 | cons c r =>
  have:=dd_all u
  rw [hd,List.all_cons,Bool.and_eq_true] at this
  exact ⟨c,r,rfl,this.1⟩
theorem mag_dd (u:Nat) (h:u≤1000000000):Lib.parseMag (Lib.decDigits u) = .ok u:=by
 unfold Lib.parseMag
 rw [if_neg (dd_ne u),parse_dv _ 0 (dd_all u) (by rw [dd_val];omega),dd_val]
theorem atoi_itoa (v:Int) (h1 : -1000000000≤v) (h2:v≤1000000000):Lib.atoiAll (Lib.itoa v) = .ok v:=by
 unfold Lib.itoa
 by_cases hv:v < 0
 ·rw [if_pos hv]
  unfold Lib.atoiAll
  have:(45:UInt8).toNat=45:=rfl
  simp only [this,or_true,if_true,mag_dd v.natAbs (by omega)]
  rw [if_neg (by omega),if_neg (by omega)]
  congr 1
  omega
 ·rw [if_neg hv]
  have hm:=mag_dd v.toNat (by omega)
  obtain ⟨c,r,e,hc⟩:=dd_first v.toNat
  unfold dgt at hc
  simp at hc
  rw [e] at hm ⊢
  unfold Lib.atoiAll
  simp only
  rw [if_neg (by omega),hm]
  simp only
  rw [if_neg (by omega),if_neg (by omega),if_neg (by omega)]
  congr 1
  omega
theorem numOk_can {s:Bs} {v:Int} (h:can s v):numOk s=true∧numV s=v:=by
 obtain ⟨rfl,h1,h2⟩:=h
 unfold numOk numV
 rw [atoi_itoa v h1 h2]
 simp [inn,h1,h2]
theorem can_numOk {s:Bs} (h:numOk s=true):can s (numV s):=by
 unfold numOk at h
 unfold numV
 cases ha:Lib.atoiAll s with
 | ok v =>
  rw [ha] at h
  simp [inn] at h
  exact ⟨h.1.symm,h.2.1,h.2.2⟩
 | «syntax»=>rw [ha] at h;cases h
 | range=>rw [ha] at h;cases h
end Go.AL
end
section
namespace Go.AL
open Go Go.Proofs
theorem rnumT_dd (bl : Bool) (u : Nat) (h : u ≤ 1000000000) (hb : bl = true → 1 ≤ u) : rnumT bl (Lib.decDigits u) = (cond bl (0 - (u : Int)) u, true) := by
  have hl := dd_len 9 u (by omega)
  have ha := dd_all u
  have hv := dsum_all _ ha
  rw [dd_val] at hv
  have hh := dd_head u
  cases hd : Lib.decDigits u with
  | nil => exact absurd hd (dd_ne u)
  | cons c r =>
    rw [hd] at hl ha hv hh
    have ha2 : (c :: r).all isDig = true := by rw [← ha]; congr 1; funext x; exact isDig_dgt x
    simp only [List.length_cons] at hl hv
    have h0 : (decide (r.length + 1 > 10) || (decide (c = 48) && (decide (r.length + 1 > 1) || bl))) = false := by
      have e1 : decide (r.length + 1 > 10) = false := by simp; omega
      rw [e1, Bool.false_or]
      by_cases hc : c = 48
      · have hu := hh (by rw [hc]; rfl)
        have hbf : bl = false := by cases bl; · rfl
                                    · have := hb rfl; omega
        rw [hu, Lib.decDigits_one (by omega)] at hd
        injection hd with _ hr
        rw [← hr, hbf]
        simp
      · rw [decide_eq_false hc]; rfl
    show cond (decide (r.length + 1 > 10) || (decide (c = 48) && (decide (r.length + 1 > 1) || bl))) (0, false) (cond ((c :: r).all isDig) (cond (decide (dsum (c :: r) (r.length + 1) > 1000000000)) (0, false) (cond bl (0 - dsum (c :: r) (r.length + 1)) (dsum (c :: r) (r.length + 1)), true)) (0, false)) = _
    have e2 : decide ((u : Int) > 1000000000) = false := by simp; omega
    rw [h0, ha2, hv, e2]
    rfl
theorem rnumT_back {bl:Bool} {t:Bs} (h:(rnumT bl t).2=true):∃ u:Nat,t=Lib.decDigits u∧u≤1000000000∧(bl=true→1≤u):=by
 cases t with
 | nil=>exact absurd h (by simp [rnumT])
 | cons c r =>
  unfold rnumT at h
  simp only at h
  cases h0:(decide (r.length+1 > 10)||(decide (c=48)&&(decide (r.length+1 > 1)||bl))) with
  | true=>rw [h0] at h;exact absurd h (by simp)
  | false =>
   rw [h0] at h
   simp only [cond_false] at h
   cases ha2:(c::r).all isDig with
   | false=>rw [ha2] at h;exact absurd h (by simp)
   | true =>
    rw [ha2] at h
    simp only [cond_true] at h
    have ha:(c::r).all dgt=true:=by rw [←ha2];congr 1;funext x;exact (isDig_dgt x).symm
    have hv:=dsum_all _ ha
    simp only [List.length_cons] at hv
    rw [hv] at h
    have hle:dvA 0 (c::r)≤1000000000:=by
     by_cases hq:(dvA 0 (c::r):Int) > 1000000000
     ·rw [decide_eq_true hq] at h;exact absurd h (by simp)
     ·omega
    rw [Bool.or_eq_false_iff] at h0
    have e:=dd_canon _ (c::r) rfl (by simp) ha (fun e=>by
     rw [List.head?_cons] at e
     injection e with e
     have:=h0.2
     rw [decide_eq_true e] at this
     simp at this
     simp [this.1])
    refine ⟨dvA 0 (c::r),e.symm,hle,fun hb=>?_⟩
    rcases Nat.eq_zero_or_pos (dvA 0 (c::r)) with hz|hz
    ·rw [hz,Lib.decDigits_one (by omega)] at e
     injection e with e1 e2
     have:=h0.2
     rw [hb,←e1,Bool.or_true,Bool.and_true] at this
     exact absurd this (by decide)
    ·exact hz
theorem rnum_can {s:Bs} {v:Int} (h:can s v):rnum s=(v,true):=by
 obtain ⟨rfl,h1,h2⟩:=h
 unfold Lib.itoa
 by_cases hv:v < 0
 ·rw [if_pos hv]
  show rnumT true (Lib.decDigits v.natAbs)=_
  rw [rnumT_dd true _ (by omega) (fun _=>by omega)]
  simp only [cond_true]
  congr 1
  omega
 ·rw [if_neg hv]
  have e:=rnumT_dd false v.toNat (by omega) (fun h=>by cases h)
  obtain ⟨c,r,hd,hc⟩:=dd_first v.toNat
  rw [hd] at e ⊢
  have h45:¬c=45:=fun e=>by rw [e] at hc;exact absurd hc (by decide)
  show cond (decide (c=45)) (rnumT true r) (rnumT false (c::r))=_
  rw [decide_eq_false h45]
  simp only [cond_false]
  rw [e]
  simp only [cond_false]
  congr 1
  omega
theorem can_rnum {s:Bs} (h:(rnum s).2=true):∃ v,can s v:=by
 cases s with
 | nil=>exact absurd h (by simp [rnum])
 | cons c r =>
  have e:rnum (c::r)=cond (decide (c=45)) (rnumT true r) (rnumT false (c::r)):=rfl
  rw [e] at h
  by_cases hc:c=45
  ·rw [decide_eq_true hc] at h
   obtain ⟨u,hu,hl,hp⟩:=rnumT_back h
   have:=hp rfl
   refine ⟨-(u:Int),?_,by omega,by omega⟩
   rw [hc,hu,Lib.itoa,if_pos (by omega)]
   congr 2
   omega
  ·rw [decide_eq_false hc] at h
   simp only [cond_false] at h
   obtain ⟨u,hu,hl,hp⟩:=rnumT_back h
   refine ⟨(u:Int),?_,by omega,by omega⟩
   rw [hu,Lib.itoa,if_neg (by omega)]
   congr 1
theorem rdN_eq (s:Bs):rdN s=ropN s:=by
 unfold rdN ropN
 cases h:numOk s with
 | true=>rw [rnum_can (can_numOk h)]
 | false =>
  cases h2:(rnum s).2 with
  | false=>rfl
  | true =>
   obtain ⟨v,hv⟩:=can_rnum h2
   rw [(numOk_can hv).1] at h
   cases h
end Go.AL
end
section
namespace Go.AL
open Go Go.Proofs
theorem suf1 (l:Bs) (c:UInt8):Lib.hasSuffix l [c]=match l.getLast? with|some d=>decide (d=c)|none=>false:=by
 rcases List.eq_nil_or_concat l with rfl|⟨i,d,rfl⟩
 ·rfl
 ·rw [List.concat_eq_append,List.getLast?_concat]
  rw [Bool.eq_iff_iff]
  show [c].isSuffixOf (i++[d])=true↔decide (d=c)=true
  rw [List.isSuffixOf_iff_suffix,decide_eq_true_iff]
  constructor
  ·rintro ⟨t,ht⟩
   have:=List.append_inj' ht rfl
   have:=this.2
   simp at this
   exact this.symm
  ·rintro rfl
   exact ⟨i,rfl⟩
theorem bare_end (l:Bs):bare (l++[10])=l:=by
 unfold bare Lib.trimSuffix
 rw [suf1,List.getLast?_concat]
 simp
theorem ended_end (l:Bs):ended (l++[10])=true:=by
 unfold ended
 rw [suf1,List.getLast?_concat]
 simp
theorem isLab_eq (l:Bs):isLab l=rlab l:=by
 unfold isLab rlab
 exact suf1 l 58
theorem labName_eq (l:Bs) (h:rlab l=true):labName l=l.dropLast∧l=l.dropLast++[58]:=by
 have h1:=isLab_eq l
 rw [h] at h1
 unfold isLab at h1
 unfold labName Lib.trimSuffix
 rw [if_pos h1]
 refine ⟨by rw [List.dropLast_eq_take];rfl,?_⟩
 unfold rlab at h
 rcases List.eq_nil_or_concat l with rfl|⟨i,d,rfl⟩
 ·cases h
 ·rw [List.concat_eq_append,List.getLast?_concat] at h
  have:d=58:=by simpa using h
  simp [this]
theorem rlab_end (w:Bs):rlab (w++[58])=true:=by
 unfold rlab
 rw [List.getLast?_concat];rfl
theorem cuts_no (c:UInt8):∀ s,∀ l∈cuts c s,c ∉ l
 | [],l,h=>by
  have:l=[]:=by simpa [cuts] using h
  rw [this];simp
 | b::r,l,h=>by
  have ih:=cuts_no c r
  rw [cuts] at h
  by_cases hb:b=c
  ·rw [if_pos hb] at h
   rcases List.mem_cons.1 h with rfl|h
   ·simp
   ·exact ih l h
  ·rw [if_neg hb] at h
   cases hk:cuts c r with
   | nil=>exact absurd hk (cuts_ne c r)
   | cons a t =>
    rw [hk] at h ih
    simp only [consH] at h
    rcases List.mem_cons.1 h with rfl|h
    ·intro hc
     rcases List.mem_cons.1 hc with e|hc
     ·exact hb e.symm
     ·exact ih a (by simp) hc
    ·exact ih l (List.mem_cons_of_mem _ h)
theorem no_end {l:Bs} (h:(10:UInt8) ∉ l):ended l=false∧bare l=l:=by
 have e:Lib.hasSuffix l [10]=false:=by
  rw [suf1]
  cases hg:l.getLast? with
  | none=>rfl
  | some d =>
   have:=List.mem_of_getLast? hg
   have:¬d=10:=fun e=>h (e ▸ this)
   simp [this]
 refine ⟨e,?_⟩
 unfold bare Lib.trimSuffix
 rw [e];rfl
theorem chk_eq:∀ (ls:List Bs) (x:Bs),chk (ls++[x])=ls.map (· ++ [10])++(if x=[] then [] else [x])
 | [],x=>by simp [chk]
 | [l],x=>by simp [chk]
 | l::g::t,x=>by
  have ih:=chk_eq (g::t) x
  simp only [List.cons_append] at ih ⊢
  rw [chk,ih]
  simp
theorem lines_split (s:Bs):∃ x,rsplit 10 s=rlines s++[x]∧chunks s=(rlines s).map (· ++ [10])++(if x=[] then [] else [x])∧(10:UInt8) ∉ x:=by
 have hne:=cuts_ne 10 s
 refine ⟨(cuts 10 s).getLast hne,?_,?_,?_⟩
 ·unfold rlines
  rw [rsplit_eq,List.dropLast_concat_getLast]
 ·rw [chunks_eq]
  unfold rlines
  rw [rsplit_eq]
  rw [←chk_eq,List.dropLast_concat_getLast]
 ·exact cuts_no 10 s _ (List.getLast_mem hne)
theorem lab_inv (ls:List Bs):∀ k,k≤ls.length→(labSt (ls.map (· ++ [10])) k).2=nl ls k∧∀ w,(labSt (ls.map (· ++ [10])) k).1.lookup w=((ls.take k).findIdx? (fun l=>decide (l=w++[58]))).map (nl ls)
 | 0,_=>⟨by simp [labSt,nl],fun w=>by simp [labSt]⟩
 | k+1,h=>by
  obtain ⟨ih1,ih2⟩:=lab_inv ls k (by omega)
  have hk:k < ls.length:=by omega
  have hkm:k < (ls.map (· ++ [10])).length:=by simpa using hk
  rw [labSt_succ hkm]
  have hg:(ls.map (· ++ [10]))[k]=ls[k]++[10]:=by simp
  rw [hg]
  generalize labSt (ls.map (· ++ [10])) k=st at *
  obtain ⟨m,n⟩:=st
  simp only at ih1 ih2
  unfold stepL
  rw [bare_end,ended_end,isLab_eq,nl_succ hk,ih1]
  refine ⟨rfl,fun w=>?_⟩
  have hw:=ih2 w
  rw [List.take_succ_eq_append_getElem hk,List.findIdx?_append]
  have hlen:(ls.take k).length=k:=by rw [List.length_take];omega
  rw [hlen]
  generalize (ls.take k).findIdx? (fun l=>decide (l=w++[58]))=q at *
  simp only [Bool.true_and]
  cases hr:rlab ls[k] with
  | false =>
   have hn:¬ls[k]=w++[58]:=fun e=>by rw [e,rlab_end] at hr;cases hr
   simp only [Bool.false_and,cond_false,List.findIdx?_cons,List.findIdx?_nil,decide_eq_false hn]
   rw [hw]
   cases q<;>simp
  | true =>
   obtain ⟨hd,hl⟩:=labName_eq ls[k] hr
   have hp:decide (ls[k]=w++[58])=decide (labName ls[k]=w):=by
    rw [hd]
    by_cases e:ls[k].dropLast=w
    ·rw [decide_eq_true e,decide_eq_true]
     rw [←e];exact hl
    ·rw [decide_eq_false e,decide_eq_false]
     intro e2
     apply e
     rw [e2];simp
   simp only [Bool.true_and,List.findIdx?_cons,List.findIdx?_nil,hp]
   generalize labName ls[k]=d at *
   by_cases e:d=w
   ·subst e
    simp only [decide_true]
    cases q with
    | some i=>rw [hw];simp [hw]
    | none =>
     rw [hw]
     simp only [Option.map_none,Option.isSome_none,Bool.not_false,cond_true]
     rw [List.lookup_append,hw]
     simp [List.lookup]
   ·have e2:(w == d)=false:=by simp;exact fun h=>e h.symm
    simp only [decide_eq_false e]
    cases (m.lookup d).isSome
    ·simp only [Bool.not_false,cond_true]
     rw [List.lookup_append,hw]
     cases q<;>simp [List.lookup,e2]
    ·simp only [Bool.not_true,cond_false]
     rw [hw]
     cases q<;>simp
end Go.AL
end
section
namespace Go.AL
open Go Go.Proofs
theorem labels_look (s w:Bs):(labels s).lookup w=((rlines s).findIdx? (fun l=>decide (l=w++[58]))).map (nl (rlines s)):=by
 obtain ⟨x,_,hc,hx⟩:=lines_split s
 have hi:=(lab_inv (rlines s) (rlines s).length (Nat.le_refl _)).2 w
 rw [List.take_length] at hi
 rw [←hi]
 unfold labels labSt
 rw [hc,List.take_length]
 have hl:((rlines s).map (· ++ [10])).take (rlines s).length=(rlines s).map (· ++ [10]):=List.take_of_length_le (by simp)
 rw [hl]
 by_cases h:x=[]
 ·rw [if_pos h,List.append_nil]
 ·rw [if_neg h,List.foldl_append]
  generalize List.foldl stepL ([],0) ((rlines s).map (· ++ [10]))=st
  show (stepL st x).1.lookup w=_
  unfold stepL
  rw [(no_end hx).1]
  rfl
theorem rdT_eq (s w:Bs):rdT (labels s) w=ropT (rlines s) w:=by
 unfold rdT ropT rtarget
 rw [name_eq,labels_look]
 cases (rlines s).findIdx? (fun l=>decide (l=w++[58]))<;>rfl
theorem rd_eq (s:Bs) (c:UInt8) (w:Bs):rd (labels s) c w=rop (rlines s) c w:=by
 unfold rd rop
 rw [rdN_eq,rdT_eq]
theorem rdAll_eq (s:Bs):∀ (kd:Bs) (ws:List Bs),rdAll (labels s) kd ws=rAll (rlines s) kd ws
 | [],_=>rfl
 | _::_,[]=>rfl
 | c::cs,w::ws=>by
  rw [rdAll,rAll,rd_eq,rdAll_eq s cs ws]
theorem words_eq (l:Bs):words l=rsplit 32 l:=by
 unfold words
 rw [split_eq,rsplit_eq]
theorem instr_eq (s l:Bs) (n:Int):rinstr (rlines s) l n=cond (decide ((instrP (labels s) l).2=0)) (cond (decide (n≥1000)) (default,2) (instrP (labels s) l)) (instrP (labels s) l):=by
 cases hw:rsplit 32 l with
 | nil =>
  have e1:instrP (labels s) l=(default,10):=by unfold instrP;rw [words_eq,hw]
  have e2:rinstr (rlines s) l n=(default,10):=by unfold rinstr;rw [hw]
  rw [e1,e2];rfl
 | cons w ws =>
  have e1:instrP (labels s) l=cond (decide (findOp w < 0)) (default,10) (instrK (labels s) (findOp w) (at' opsT (findOp w)).2 ws):=by unfold instrP;rw [words_eq,hw]
  have e2:rinstr (rlines s) l n=cond (decide (findOp w < 0)) (default,10) (rinstrK (rlines s) (findOp w) (at' opK (findOp w)) ws n):=by unfold rinstr;rw [hw]
  rw [e1,e2]
  rcases findOp_cases w with h|⟨k,hk,h⟩
  ·rw [h];rfl
  ·have h0:decide ((k:Int) < 0)=false:=by simp
   rw [h,h0,opK_at k hk]
   simp only [cond_false]
   unfold rinstrK instrK
   rw [rdAll_eq]
   cases decide (ws.length=(at' opsT (k:Int)).2.length) with
   | false=>rfl
   | true =>
    simp only [cond_true]
    by_cases hz:(rAll (rlines s) (at' opsT (k:Int)).2 ws).2=0
    ·rw [hz];simp
    ·simp [hz]
theorem instr_lt (s l:Bs) (n:Nat) (h:(rinstr (rlines s) l n).2=0):n < 1000∧rinstr (rlines s) l n=instrP (labels s) l:=by
 rw [instr_eq] at h ⊢
 by_cases h0:(instrP (labels s) l).2=0
 ·rw [decide_eq_true h0] at h ⊢
  simp only [cond_true] at h ⊢
  by_cases hn:(n:Int)≥1000
  ·rw [decide_eq_true hn] at h
   simp only [cond_true] at h
   exact absurd h (by decide)
  ·rw [decide_eq_false hn]
   exact ⟨by omega,rfl⟩
 ·rw [decide_eq_false h0] at h
  exact absurd h h0
theorem bad1_inv {e:Nat→Int}:∀ {n:Nat},(bad1 e n=none→∀ q,q < n→e q=0)∧(∀ k,bad1 e n=some k→k < n∧(∀ q,q < k→e q=0)∧e k≠0)
 | 0=>⟨fun _ q h=>absurd h (by omega),fun k h=>by cases h⟩
 | n+1=>by
  obtain ⟨i1,i2⟩:=bad1_inv (e:=e) (n:=n)
  rw [bad1]
  cases hb:bad1 e n with
  | some k =>
   refine ⟨fun h=>(by cases h),fun q h=>?_⟩
   injection h with h
   subst h
   obtain ⟨a,b,c⟩:=i2 _ hb
   exact ⟨by omega,b,c⟩
  | none =>
   have i1:=i1 hb
   by_cases h0:e n=0
   ·rw [decide_eq_true h0]
    refine ⟨fun _ q hq=>?_,fun k h=>(by cases h)⟩
    by_cases e:q=n
    ·rw [e];exact h0
    ·exact i1 q (by omega)
   ·rw [decide_eq_false h0]
    refine ⟨fun h=>(by cases h),fun k h=>?_⟩
    injection h with h
    subst h
    exact ⟨by omega,i1,h0⟩
def PInv (s:Bs) (k:Nat):Prop :=
 (pSt (labels s) (chunks s) k).2=rpSt (rlines s) k∧(rpSt (rlines s) k).length≤1000∧(∀ b,0≤cnt (pSt (labels s) (chunks s) k).1 b)∧∀ b,decide (cnt (pSt (labels s) (chunks s) k).1 b+1 > 1)=((rlines s).take k).any fun l=>decide (l=b)
theorem chunk_at (s:Bs) {k:Nat} (h:k < (rlines s).length):∃ h2:k < (chunks s).length,(chunks s)[k]=(rlines s)[k]++[10]:=by
 obtain ⟨x,_,hc,_⟩:=lines_split s
 have h2:k < (chunks s).length:=by rw [hc];simp;omega
 refine ⟨h2,?_⟩
 have:(chunks s)[k]? = some ((rlines s)[k]++[10]):=by
  rw [hc,List.getElem?_append_left (by simpa using h)]
  simp [h]
 rw [List.getElem?_eq_getElem h2] at this
 injection this
theorem rpE_eq (s:Bs) {k:Nat} (h:k < (rlines s).length) (hi:PInv s k):pE (labels s) (chunks s) k=rpE (rlines s) k:=by
 obtain ⟨h2,hc⟩:=chunk_at s h
 obtain ⟨i1,i2,_,i3⟩:=hi
 unfold pE rpE
 rw [List.getElem?_eq_getElem h2,hc]
 simp only
 have hg:(rlines s).getD k []=(rlines s)[k]:=by simp [List.getD,h]
 rw [hg]
 unfold lineE
 rw [bare_end,ended_end,isLab_eq,i3,i1]
 cases hr:rlab (rlines s)[k] with
 | true =>
  obtain ⟨hd,_⟩:=labName_eq _ hr
  rw [hd,name_eq]
  cases rname (rlines s)[k].dropLast<;>simp
 | false =>
  have e:decide ((rpSt (rlines s) k).length=1000)=decide (((rpSt (rlines s) k).length:Int)≥1000):=by
   by_cases h3:(rpSt (rlines s) k).length=1000
   ·rw [decide_eq_true h3,decide_eq_true (by omega)]
   ·rw [decide_eq_false h3,decide_eq_false (by omega)]
  rw [instr_eq,e]
  simp only [Bool.not_true,Bool.false_and,Bool.or_false,cond_false]
  by_cases h0:(instrP (labels s) (rlines s)[k]).2=0
  ·rw [decide_eq_true h0]
   simp only [cond_true]
   cases decide (((rpSt (rlines s) k).length:Int)≥1000)
   ·exact h0.symm
   ·rfl
  ·rw [decide_eq_false h0]
   rfl
theorem inv_all (s:Bs):∀ k,k≤(rlines s).length→(∀ q,q < k→rpE (rlines s) q=0)→PInv s k
 | 0,_,_=>⟨rfl,by simp [rpSt],fun b=>by simp [pSt,cnt],fun b=>by simp [pSt,cnt]⟩
 | k+1,hk,hz=>by
  have ih:=inv_all s k (by omega) (fun q hq=>hz q (by omega))
  have h:k < (rlines s).length:=by omega
  have hE:=hz k (by omega)
  obtain ⟨h2,hc⟩:=chunk_at s h
  obtain ⟨i1,i2,i0,i3⟩:=ih
  have hg:(rlines s).getD k []=(rlines s)[k]:=by simp [List.getD,h]
  unfold PInv
  rw [pSt_succ h2,hc,bare_end,rpSt_succ h]
  have hcd:lineC (labels s) (pSt (labels s) (chunks s) k).2 ((rlines s)[k]++[10])=cond (rlab (rlines s)[k]) (rpSt (rlines s) k) (rpSt (rlines s) k++[(rinstr (rlines s) (rlines s)[k] (rpSt (rlines s) k).length).1])∧(cond (rlab (rlines s)[k]) (rpSt (rlines s) k) (rpSt (rlines s) k++[(rinstr (rlines s) (rlines s)[k] (rpSt (rlines s) k).length).1])).length≤1000:=by
   unfold lineC
   unfold rpE at hE
   rw [hg] at hE
   rw [bare_end,isLab_eq,i1]
   cases hr:rlab (rlines s)[k] with
   | true=>exact ⟨rfl,i2⟩
   | false =>
    rw [hr] at hE
    obtain ⟨hn,he⟩:=instr_lt s _ _ hE
    simp only [cond_false]
    rw [he]
    refine ⟨rfl,?_⟩
    rw [List.length_append];simp;omega
  refine ⟨hcd.1,hcd.2,fun b=>?_,fun b=>?_⟩
  ·rw [bump_cnt]
   have a:=i0 (rlines s)[k];have c:=i0 b
   cases decide ((rlines s)[k]=b)<;>simp<;>omega
  ·rw [bump_cnt,List.take_succ_eq_append_getElem h,List.any_append,←i3]
   have a:=i0 (rlines s)[k]
   by_cases e:(rlines s)[k]=b
   ·simp only [List.any_cons,List.any_nil,Bool.or_false,decide_eq_true e,cond_true,Bool.or_true,decide_eq_true_eq]
    omega
   ·simp only [List.any_cons,List.any_nil,Bool.or_false,decide_eq_false e,cond_false]
theorem parse_eq (s:Bs):parseP s=rparse s:=by
 unfold parseP rparse
 by_cases h4:s.length > 40000
 ·rw [decide_eq_true h4];rfl
 ·rw [decide_eq_false h4]
  simp only [cond_false]
  have hcut:chunks s=chunks s:=rfl
  obtain ⟨x,hs,hc,hx⟩:=lines_split s
  obtain ⟨b1,b2⟩:=bad1_inv (e:=rpE (rlines s)) (n:=(rlines s).length)
  have hlen:(chunks s).length=(rlines s).length+(if x=[] then [] else [x]:List Bs).length:=by rw [hc];simp
  have hlx:(rsplit 10 s).getLast? = some x:=by rw [hs];simp
  have hln:(rsplit 10 s).length=(rlines s).length+1:=by rw [hs];simp
  cases hb:bad1 (rpE (rlines s)) (rlines s).length with
  | some k =>
   obtain ⟨k1,k2,k3⟩:=b2 k hb
   have hz:∀ q,q≤k→pE (labels s) (chunks s) q=rpE (rlines s) q:=fun q hq =>
    rpE_eq s (by omega) (inv_all s q (by omega) (fun p hp=>k2 p (by omega)))
   have hp:bad1 (pE (labels s) (chunks s)) (chunks s).length=some k :=
    bad1_some (fun q hq=>by rw [hz q (by omega)];exact k2 q hq) (by rw [hz k (by omega)];exact k3) (by omega)
   rw [hp]
   simp only
   rw [hz k (by omega)]
  | none =>
   have b1:=b1 hb
   have hi:=inv_all s (rlines s).length (Nat.le_refl _) b1
   have hz:∀ q,q < (rlines s).length→pE (labels s) (chunks s) q=0:=fun q hq=>by
    rw [rpE_eq s hq (inv_all s q (by omega) (fun p hp=>b1 p (by omega)))];exact b1 q hq
   rw [hlx]
   by_cases h0:x=[]
   ·have hn:(chunks s).length=(rlines s).length:=by rw [hlen,if_pos h0];rfl
    rw [bad1_none (fun q hq=>hz q (by omega)),hn]
    simp only
    rw [hi.1,h0]
    rfl
   ·have hn:(chunks s).length=(rlines s).length+1:=by rw [hlen,if_neg h0];rfl
    have he:pE (labels s) (chunks s) (rlines s).length=12:=by
     unfold pE
     rw [hc,List.getElem?_append_right (by simp),if_neg h0]
     simp only [List.length_map,Nat.sub_self,List.getElem?_cons_zero]
     unfold lineE
     rw [(no_end hx).1]
     rfl
    rw [bad1_some (k:=(rlines s).length) hz (by rw [he];decide) (by omega)]
    simp only
    rw [he,hln]
    have:decide (some x=some ([]:Bs))=false:=by simp [h0]
    rw [this]
    simp
end Go.AL
end
section
namespace Go.AL
open Go Go.Proofs
theorem nl_left (l1 l2:List Bs) {i:Nat} (h:i≤l1.length):nl (l1++l2) i=nl l1 i:=by
 unfold nl
 rw [List.take_append_of_le_length h]
theorem nl_mono (ls:List Bs) {i j:Nat} (h:i≤j):nl ls i≤nl ls j:=by
 unfold nl
 have:(ls.take i) <+: (ls.take j):=List.take_prefix_take_left h
 have:=(List.IsPrefix.filter (fun l=>!rlab l) this).length_le
 omega
theorem rpSt_nl (ls:List Bs):∀ k,k≤ls.length→((rpSt ls k).length:Int)=nl ls k
 | 0,_=>by simp [rpSt,nl]
 | k+1,h=>by
  have ih:=rpSt_nl ls k (by omega)
  have hk:k < ls.length:=by omega
  rw [rpSt_succ hk,nl_succ hk,←ih]
  cases rlab ls[k]<;>simp
theorem tgt_l {l1:List Bs} (l2:List Bs) {w:Bs} (h:(rtarget l1 w).2=true):rtarget (l1++l2) w=rtarget l1 w:=by
 unfold rtarget at h ⊢
 rw [List.findIdx?_append]
 cases hf:l1.findIdx? (fun l=>decide (l=w++[58])) with
 | none=>rw [hf] at h;cases h
 | some i =>
  obtain ⟨hi,_⟩:=List.findIdx?_eq_some_iff_getElem.1 hf
  simp only [Option.some_or]
  rw [nl_left l1 l2 (by omega)]
theorem rAll_inv (ls:List Bs):∀ (kd:Bs) (ws:List Bs),ws.length=kd.length→(rAll ls kd ws).2=0→∀ q,q < kd.length→(rop ls (kd.getD q 0) (ws.getD q [])).2=0
 | [],ws,_,_,q,hq=>absurd hq (by simp)
 | c::kd,[],h,_,_,_=>by simp at h
 | c::kd,w::ws,h,ha,q,hq=>by
  rw [rAll] at ha
  by_cases h0:(rop ls c w).2=0
  ·rw [decide_eq_true h0] at ha
   simp only [cond_true] at ha
   cases q with
   | zero=>simpa using h0
   | succ q=>simpa using rAll_inv ls kd ws (by simpa using h) ha q (by simpa using hq)
  ·rw [decide_eq_false h0] at ha
   exact absurd ha h0
theorem rAll_get {ls:List Bs} {kd:Bs} {ws:List Bs} (hl:ws.length=kd.length) (h:∀ q,q < kd.length→(rop ls (kd.getD q 0) (ws.getD q [])).2=0) (q:Nat) :
  (rAll ls kd ws).1.getD q 0=cond (decide (q < kd.length)) (rop ls (kd.getD q 0) (ws.getD q [])).1 0:=by
 by_cases hq:q < kd.length
 ·rw [decide_eq_true hq]
  exact (rAll_ok ls kd ws hl h).2 q hq
 ·rw [decide_eq_false hq]
  have:=rAll_len ls kd ws
  rw [List.getD,List.getElem?_eq_none (by omega)];rfl
def LineOk (ls:List Bs) (l:Bs) (k:Nat) (ws:List Bs):Prop :=
 k < 27∧(∃ w,rsplit 32 l=w::ws∧findOp w=(k:Int))∧ws.length=(at' opsT (k:Int)).2.length∧∀ q,q < (at' opsT (k:Int)).2.length→(rop ls ((at' opsT (k:Int)).2.getD q 0) (ws.getD q [])).2=0
def insOf (ls:List Bs) (k:Nat) (ws:List Bs):Ins :=
 ⟨k,(rAll ls (at' opsT (k:Int)).2 ws).1.getD 0 0,(rAll ls (at' opsT (k:Int)).2 ws).1.getD 1 0,(rAll ls (at' opsT (k:Int)).2 ws).1.getD 2 0⟩
theorem rinstr_of {ls:List Bs} {l:Bs} {k:Nat} {ws:List Bs} (h:LineOk ls l k ws) (n:Int):rinstr ls l n=cond (decide (n≥1000)) (default,2) (insOf ls k ws,0):=by
 obtain ⟨hk,⟨w,hw,hf⟩,hl,ha⟩:=h
 unfold rinstr
 rw [hw]
 simp only
 have h0:decide ((k:Int) < 0)=false:=by simp
 rw [hf,h0,opK_at k hk]
 simp only [cond_false]
 unfold rinstrK
 rw [decide_eq_true hl,(rAll_ok ls _ ws hl ha).1]
 rfl
theorem rinstr_inv {ls:List Bs} {l:Bs} {n:Int} (h:(rinstr ls l n).2=0):∃ k ws,LineOk ls l k ws∧¬n≥1000∧rinstr ls l n=(insOf ls k ws,0):=by
 have h':=h
 unfold rinstr at h
 cases hw:rsplit 32 l with
 | nil=>rw [hw] at h;exact absurd h (by simp)
 | cons w ws =>
  rw [hw] at h
  simp only at h
  rcases findOp_cases w with hf|⟨k,hk,hf⟩
  ·rw [hf] at h;exact absurd h (by simp)
  ·have h0:decide ((k:Int) < 0)=false:=by simp
   rw [hf,h0,opK_at k hk] at h
   simp only [cond_false] at h
   unfold rinstrK at h
   by_cases hl:ws.length=(at' opsT (k:Int)).2.length
   ·rw [decide_eq_true hl] at h
    simp only [cond_true] at h
    by_cases hz:(rAll ls (at' opsT (k:Int)).2 ws).2=0
    ·have hL:LineOk ls l k ws:=⟨hk,⟨w,hw,hf⟩,hl,rAll_inv ls _ ws hl hz⟩
     have e:=rinstr_of hL n
     by_cases hn:n≥1000
     ·rw [e,decide_eq_true hn] at h';exact absurd h' (by simp)
     ·rw [decide_eq_false hn] at e
      exact ⟨k,ws,hL,hn,e⟩
    ·rw [decide_eq_false hz] at h
     exact absurd h hz
   ·rw [decide_eq_false hl] at h
    exact absurd h (by simp)
theorem getD_at {ls:List Bs} {k:Nat} (h:k < ls.length):ls.getD k []=ls[k]:=by simp [List.getD,h]
theorem rparse_good {s:Bs} (h:(rparse s).2.2=0):s.length≤40000∧rsplit 10 s=rlines s++[[]]∧(∀ q,q < (rlines s).length→rpE (rlines s) q=0)∧rparse s=(rpSt (rlines s) (rlines s).length,0,0):=by
 obtain ⟨x,hs,_,_⟩:=lines_split s
 have hlx:(rsplit 10 s).getLast? = some x:=by rw [hs];simp
 have h':=h
 unfold rparse at h ⊢
 by_cases h4:s.length > 40000
 ·rw [decide_eq_true h4] at h;exact absurd h (by simp)
 ·rw [decide_eq_false h4] at h ⊢
  simp only [cond_false] at h ⊢
  cases hb:bad1 (rpE (rlines s)) (rlines s).length with
  | some k =>
   rw [hb] at h
   exact absurd h ((bad1_inv.2 k hb).2.2)
  | none =>
   rw [hb,hlx] at h
   by_cases hx1:x=[]
   ·rw [hx1] at hs hlx
    exact ⟨by omega,hs,bad1_inv.1 hb,by rw [hlx];rfl⟩
   ·rw [decide_eq_false (by simpa using hx1)] at h
    exact absurd h (by simp)
end Go.AL
end
section
namespace Go.AL
open Go Go.Proofs
def bd (v:Int):Prop:=-1000000000≤v∧v≤1000000000
theorem bd_zero:bd 0:=⟨by decide,by decide⟩
theorem ropN_bd (s:Bs):bd (ropN s).1:=by
 unfold ropN
 cases h:(rnum s).2 with
 | false=>exact bd_zero
 | true =>
  obtain ⟨v,hv⟩:=can_rnum h
  rw [rnum_can hv]
  exact hv.2
end Go.AL
end
section
namespace Go.AL
open Go Go.Proofs
def nm (k:Nat):Bs:=(at' opsT (k:Int)).1
def kdO (k:Nat):Bs:=(at' opsT (k:Int)).2
def pfx (c:UInt8):Bs:=cond (decide (c=114)) [114] (cond (decide (c=116)) [108] [])
def prW (c:UInt8) (v:Int):Bs:=pfx c++Lib.itoa v
def vals3 (i:Ins):List Int:=[i.a,i.b,i.c]
def prL (i:Ins):Bs:=nm i.op.toNat++(List.zipWith prW (kdO i.op.toNat) (vals3 i)).flatMap (32 :: ·)
def hasT (i:Ins) (n:Int):Bool:=(List.zip (kdO i.op.toNat) (vals3 i)).any fun p=>decide (p.1=116)&&decide (p.2=n)
def isT (l:List Ins) (n:Int):Bool:=l.any (hasT · n)
def lname (n:Nat):Bs:=108::Lib.itoa n
def lim (k:Option UInt8) (n:Nat):Int × Int:=match k with
 | none=>(0,0)
 | some c=>cond (decide (c=114)) (0,7) (cond (decide (c=110)) (-1000000000,1000000000) (0,n))
def mayV (k:Option UInt8) (n:Nat) (v:Int):Bool:=inn v (lim k n).1 (lim k n).2
def mayI (n:Nat) (i:Ins):Bool:=inn i.op 0 26&&(mayV (kdO i.op.toNat)[0]? n i.a&&(mayV (kdO i.op.toNat)[1]? n i.b&&mayV (kdO i.op.toNat)[2]? n i.c))
def rightC (l:List Ins):Bool:=decide (l.length≤1000)&&l.all (mayI l.length)
theorem cuts_sep (c:UInt8) (r:Bs):∀ a:Bs,c ∉ a→cuts c (a++c::r)=a::cuts c r
 | [],_=>by simp [cuts]
 | b::a,h=>by
  have ih:=cuts_sep c r a (fun hm=>h (List.mem_cons_of_mem _ hm))
  have hb:¬b=c:=fun e=>h (by simp [e])
  rw [List.cons_append,cuts,if_neg hb,ih];rfl
theorem cuts_one (c:UInt8):∀ a:Bs,c ∉ a→cuts c a=[a]
 | [],_=>by simp [cuts]
 | b::a,h=>by
  have ih:=cuts_one c a (fun hm=>h (List.mem_cons_of_mem _ hm))
  have hb:¬b=c:=fun e=>h (by simp [e])
  rw [cuts,if_neg hb,ih];rfl
theorem cuts_words (c:UInt8):∀ (ws:List Bs) (a:Bs),c ∉ a→(∀ w∈ws,c ∉ w)→cuts c (a++ws.flatMap (c :: ·))=a::ws
 | [],a,h,_=>by simpa using cuts_one c a h
 | w::ws,a,h,hw=>by
  rw [List.flatMap_cons,List.cons_append,cuts_sep c _ a h,cuts_words c ws w (hw w (by simp)) (fun x hx=>hw x (List.mem_cons_of_mem _ hx))]
theorem cuts_lines (c:UInt8):∀ (ls:List Bs),(∀ l∈ls,c ∉ l)→cuts c (ls.flatMap (· ++ [c]))=ls++[[]]
 | [],_=>by simp [cuts]
 | l::ls,h=>by
  rw [List.flatMap_cons,List.append_assoc,List.singleton_append,cuts_sep c _ l (h l (by simp)),cuts_lines c ls (fun x hx=>h x (List.mem_cons_of_mem _ hx))]
  rfl
def wch (c:UInt8):Bool:=dgt c||(decide (97≤c.toNat)&&decide (c.toNat≤122))||decide (c=45)
theorem wch_no {s:Bs} (h:s.all wch=true) {c:UInt8} (hc:wch c=false):c ∉ s:=fun hm=>by
 have:=List.all_eq_true.1 h c hm
 rw [hc] at this;cases this
theorem dgt_wch {s:Bs} (h:s.all dgt=true):s.all wch=true:=by
 rw [List.all_eq_true] at h ⊢
 intro x hx
 unfold wch
 rw [h x hx];rfl
theorem itoa_wch (v:Int):(Lib.itoa v).all wch=true:=by
 unfold Lib.itoa
 split
 ·rw [List.all_cons,dgt_wch (dd_all _)];rfl
 ·exact dgt_wch (dd_all _)
theorem itoa_nat (n:Nat):Lib.itoa (n:Int)=Lib.decDigits n:=by
 unfold Lib.itoa
 rw [if_neg (by omega)];rfl
theorem itoa_len {v:Int} (h:bd v):(Lib.itoa v).length≤11:=by
 unfold bd at h
 unfold Lib.itoa
 split
 ·have:=dd_len 9 v.natAbs (by omega)
  simp;omega
 ·have:=dd_len 9 v.toNat (by omega)
  omega
theorem nm_wch:∀ k:Nat,k < 27→(nm k).all wch=true∧(nm k).length≤5∧findOp (nm k)=(k:Int):=by decide +kernel
theorem kd_of:∀ k:Nat,k < 27→(kdO k).length≤3∧(kdO k).all (fun c=>decide (c=114)||(decide (c=110)||decide (c=116)))=true:=by decide
theorem prW_wch (c:UInt8) (v:Int):(prW c v).all wch=true:=by
 unfold prW pfx
 rw [List.all_append,itoa_wch]
 cases decide (c=114)
 ·cases decide (c=116)<;>rfl
 ·rfl
theorem mem_zipW {α β γ:Type} {f:α→β→γ}:∀ {A:List α} {B:List β} {w:γ},w∈List.zipWith f A B→∃ a b,w=f a b
 | [],_,_,h=>by simp at h
 | _::_,[],_,h=>by simp at h
 | a::A,b::B,w,h=>by
  rw [List.zipWith_cons_cons] at h
  rcases List.mem_cons.1 h with rfl|h
  ·exact ⟨a,b,rfl⟩
  ·exact mem_zipW h
theorem prL_words {i:Ins} (h:i.op.toNat < 27):rsplit 32 (prL i)=nm i.op.toNat::List.zipWith prW (kdO i.op.toNat) (vals3 i):=by
 rw [rsplit_eq]
 refine cuts_words 32 _ _ (wch_no (nm_wch _ h).1 (by decide)) (fun w hw=>?_)
 obtain ⟨a,b,rfl⟩:=mem_zipW hw
 exact wch_no (prW_wch _ _) (by decide)
theorem prL_no {i:Ins} (h:i.op.toNat < 27) {c:UInt8} (hc:wch c=false) (hc2:c≠32):c ∉ prL i:=by
 unfold prL
 intro hm
 rcases List.mem_append.1 hm with hm|hm
 ·exact wch_no (nm_wch _ h).1 hc hm
 ·obtain ⟨w,hw,hm⟩:=List.mem_flatMap.1 hm
  rcases List.mem_cons.1 hm with hm|hm
  ·exact hc2 hm
  ·obtain ⟨a,b,rfl⟩:=mem_zipW hw
   exact wch_no (prW_wch _ _) hc hm
theorem prL_lab {i:Ins} (h:i.op.toNat < 27):rlab (prL i)=false:=by
 unfold rlab
 cases hg:(prL i).getLast? with
 | none=>rfl
 | some d =>
  have:=List.mem_of_getLast? hg
  exact decide_eq_false fun e=>prL_no h (c:=58) (by decide) (by decide) (e ▸ this)
theorem lname_name {n:Nat} (h:n≤1000):rname (lname n)=true:=by
 have hl:=dd_len 9 n (by omega)
 have ha:=dd_all n
 unfold lname rname
 rw [itoa_nat]
 have e:(108::Lib.decDigits n).all azn=true:=by
  rw [List.all_cons,List.all_eq_true.2]
  ·rfl
  ·intro x hx
   have:=List.all_eq_true.1 ha x hx
   unfold dgt at this
   unfold azn
   simp at this ⊢
   omega
 simp only [e]
 simp
 omega
end Go.AL
end
section
namespace Go.AL
open Go Go.Proofs
theorem inn_iff {v a b:Int}:inn v a b=true↔a≤v∧v≤b:=by
 unfold inn;simp
theorem rop_pr_r (ls:List Bs) {v:Int} (h0:0≤v) (h7:v≤7):rop ls 114 (prW 114 v)=(v,0):=by
 obtain ⟨n,rfl⟩:∃ n:Nat,v=n:=⟨v.toNat,by omega⟩
 have hn:n≤7:=by omega
 unfold prW pfx
 rw [itoa_nat,Lib.decDigits_one (by omega)]
 show rdR [114,UInt8.ofNat (48+n)]=_
 have e:=(dgt_of n (by omega)).2
 show cond (decide ((114:UInt8).toNat=114)) (cond (inn (UInt8.ofNat (48+n)).toNat 48 55) (((UInt8.ofNat (48+n)).toNat:Int)-48,0) (0,3)) (0,3)=_
 have e2:((UInt8.ofNat (48+n)).toNat:Int)=48+n:=by rw [e];omega
 rw [e2]
 have h1:inn (48+(n:Int)) 48 55=true:=inn_iff.2 ⟨by omega,by omega⟩
 rw [h1]
 show ((48+(n:Int))-48,(0:Int))=_
 congr 1
 omega
theorem rop_pr_n (ls:List Bs) {v:Int} (h0 : -1000000000≤v) (h7:v≤1000000000):rop ls 110 (prW 110 v)=(v,0):=by
 show ropN (prW 110 v)=_
 have e:prW 110 v=Lib.itoa v:=rfl
 unfold ropN
 rw [e,rnum_can ⟨rfl,h0,h7⟩]
 rfl
theorem rop_pr_t (ls:List Bs) {n:Nat} (hn:n≤1000) (ht:rtarget ls (lname n)=((n:Int),true)):rop ls 116 (prW 116 n)=((n:Int),0):=by
 show ropT ls (lname n)=_
 unfold ropT
 rw [lname_name hn,ht];rfl
def AllAt (l:List Ins) (ls:List Bs):Prop:=∀ n:Nat,n≤l.length→isT l n=true→rtarget ls (lname n)=((n:Int),true)
theorem rop_pr {l:List Ins} {ls:List Bs} (hl:l.length≤1000) (hA:AllAt l ls) {c:UInt8} {v:Int} (hc:c=114∨c=110∨c=116) (hm:mayV (some c) l.length v=true) (hT:c=116→isT l v=true):rop ls c (prW c v)=(v,0):=by
 unfold mayV lim at hm
 rcases hc with rfl|rfl|rfl
 ·obtain ⟨h0,h7⟩:=inn_iff.1 hm
  exact rop_pr_r ls h0 h7
 ·obtain ⟨h0,h7⟩:=inn_iff.1 hm
  exact rop_pr_n ls h0 h7
 ·obtain ⟨h0,h7⟩:=inn_iff.1 hm
  have h0:0≤v:=h0
  have h7:v≤(l.length:Int):=h7
  obtain ⟨n,rfl⟩:∃ n:Nat,v=n:=⟨v.toNat,by omega⟩
  exact rop_pr_t ls (by omega) (hA n (by omega) (hT rfl))
theorem mayI_op {n:Nat} {i:Ins} (h:mayI n i=true):∃ k:Nat,k < 27∧i.op=k:=by
 unfold mayI at h
 rw [Bool.and_eq_true] at h
 obtain ⟨h1,h2⟩:=inn_iff.1 h.1
 exact ⟨i.op.toNat,by omega,by omega⟩
theorem mayI_val {n:Nat} {i:Ins} (h:mayI n i=true):mayV (kdO i.op.toNat)[0]? n i.a=true∧mayV (kdO i.op.toNat)[1]? n i.b=true∧mayV (kdO i.op.toNat)[2]? n i.c=true:=by
 unfold mayI at h
 simp only [Bool.and_eq_true] at h
 exact ⟨h.2.1,h.2.2.1,h.2.2.2⟩
theorem mayV_none {n:Nat} {v:Int} (h:mayV none n v=true):v=0:=by
 obtain ⟨h1,h2⟩:=inn_iff.1 h
 have h1:0≤v:=h1
 have h2:v≤0:=h2
 omega
theorem prL_ok {l:List Ins} {ls:List Bs} (hl:l.length≤1000) (hA:AllAt l ls) {i:Ins} (hi:i∈l) (hm:mayI l.length i=true):LineOk ls (prL i) i.op.toNat (List.zipWith prW (kdO i.op.toNat) (vals3 i))∧insOf ls i.op.toNat (List.zipWith prW (kdO i.op.toNat) (vals3 i))=i:=by
 obtain ⟨k,hk,hop⟩:=mayI_op hm
 have hko:i.op.toNat=k:=by omega
 obtain ⟨ma,mb,mc⟩:=mayI_val hm
 have hkl:=prL_words (i:=i) (by omega)
 have hko':=hko
 rw [hko] at ma mb mc hkl ⊢
 obtain ⟨hlen,hall⟩:=kd_of k hk
 have hkd:kdO k=(at' opsT (k:Int)).2:=rfl
 have hwl:(List.zipWith prW (kdO k) (vals3 i)).length=(kdO k).length:=by
  rw [List.length_zipWith]
  show min (kdO k).length 3=_
  omega
 have hv:∀ q,q < (kdO k).length→∃ v,(vals3 i)[q]? = some v∧mayV (kdO k)[q]? l.length v=true:=fun q hq=>by
  match q,hq with
  | 0,_=>exact ⟨_,rfl,ma⟩
  | 1,_=>exact ⟨_,rfl,mb⟩
  | 2,_=>exact ⟨_,rfl,mc⟩
  | q+3,hq=>omega
 have hrop:∀ q,q < (kdO k).length→rop ls ((kdO k).getD q 0) ((List.zipWith prW (kdO k) (vals3 i)).getD q [])=((vals3 i).getD q 0,0):=fun q hq=>by
  obtain ⟨v,h1,h2⟩:=hv q hq
  have hc:(kdO k)[q]? = some (kdO k)[q]:=List.getElem?_eq_getElem hq
  have e1:(kdO k).getD q 0=(kdO k)[q]:=by simp [List.getD,hc]
  have e2:(vals3 i).getD q 0=v:=by simp [List.getD,h1]
  have e3:(List.zipWith prW (kdO k) (vals3 i)).getD q []=prW (kdO k)[q] v:=by
   simp [List.getD,List.getElem?_zipWith,hc,h1]
  rw [e1,e2,e3]
  rw [hc] at h2
  have hcc:(kdO k)[q]=114∨(kdO k)[q]=110∨(kdO k)[q]=116:=by
   have:=List.all_eq_true.1 hall _ (List.getElem_mem hq)
   simpa using this
  refine rop_pr hl hA hcc h2 fun hc6=>?_
  unfold isT
  rw [List.any_eq_true]
  refine ⟨i,hi,?_⟩
  unfold hasT
  rw [List.any_eq_true]
  refine ⟨((kdO k)[q],v),?_,by simp [hc6]⟩
  rw [hko']
  exact List.mem_of_getElem? (i:=q) (by rw [List.getElem?_zip_eq_some];exact ⟨hc,h1⟩)
 have hz:∀ q,q < (kdO k).length→(rop ls ((kdO k).getD q 0) ((List.zipWith prW (kdO k) (vals3 i)).getD q [])).2=0:=fun q hq=>by rw [hrop q hq]
 refine ⟨⟨hk,⟨nm k,hkl,(nm_wch k hk).2.2⟩,hwl,hz⟩,?_⟩
 have hg:∀ q,(rAll ls (kdO k) (List.zipWith prW (kdO k) (vals3 i))).1.getD q 0=cond (decide (q < (kdO k).length)) ((vals3 i).getD q 0) 0:=fun q=>by
  rw [rAll_get hwl hz]
  by_cases hq:q < (kdO k).length
  ·rw [hrop q hq]
  ·rw [decide_eq_false hq];rfl
 have fin:∀ q v,(vals3 i).getD q 0=v→(mayV (kdO k)[q]? l.length v=true)→(rAll ls (kdO k) (List.zipWith prW (kdO k) (vals3 i))).1.getD q 0=v:=fun q v h1 h2=>by
  rw [hg]
  by_cases hq:q < (kdO k).length
  ·rw [decide_eq_true hq];exact h1
  ·rw [decide_eq_false hq]
   rw [List.getElem?_eq_none (by omega)] at h2
   exact (mayV_none h2).symm
 unfold insOf
 rw [←hkd,fin 0 i.a rfl ma,fin 1 i.b rfl mb,fin 2 i.c rfl mc,←hop]
end Go.AL
end
section
set_option maxRecDepth 100000
namespace Go.AL
open Go Go.Proofs
attribute [local irreducible] J
def look2 (m:Mp) (w:Bs):Int × Int:=match m.lookup w with|some n=>(n,0)|none=>(0,8)
def whereP (s w:Bs):Int × Int:=cond (decide ((parseP s).2.2=0)) (look2 (labels s) w) (0,(parseP s).2.2)
theorem where_ok (g:Gl) (s w:Bs) (hs:s.length≤1000000):ACalls Tryz.prog 123 [sv s,sv w] (gls g) (one (.tup [iv (whereP s w).1,iv (whereP s w).2]) (gls g)):=by
 have hp:=parse_ok g s hs
 have hl:=labels_ok s hs
 have hf:=encM_find (labels s) w
 have hks:=encM_keys (labels s)
 unfold whereP look2
 generalize parseP s=r at *
 obtain ⟨r1,r2,r3⟩:=r
 simp only at hp ⊢
 by_cases h0:r3=0
 ·subst h0
  simp only [decide_true,cond_true]
  cases hlk:(labels s).lookup w with
  | none =>
   rw [hlk] at hf
   simp only [Option.map_none] at hf
   refine jC Tryz.func123 Tryz.ntmps123 (fun w0 β0 ext hβ=>?_)
   repeat (first|refine jS ?_|refine jD ?_|refine jB ?_)
   refine jBb [0,1,2,3] hp ?_
   repeat (first|refine jS ?_|refine jD ?_|refine jB ?_)
   refine jBb [] hl ?_
   repeat (first|refine jS ?_|refine jD ?_|refine jB ?_|refine jo rfl rfl (map_get rfl rfl rfl rfl rfl rfl rfl rfl rfl trivial hks hf rfl) rfl rfl ?_)
   exact jR
  | some n =>
   rw [hlk] at hf
   simp only [Option.map_some] at hf
   refine jC Tryz.func123 Tryz.ntmps123 (fun w0 β0 ext hβ=>?_)
   repeat (first|refine jS ?_|refine jD ?_|refine jB ?_)
   refine jBb [0,1,2,3] hp ?_
   repeat (first|refine jS ?_|refine jD ?_|refine jB ?_)
   refine jBb [] hl ?_
   repeat (first|refine jS ?_|refine jD ?_|refine jB ?_|refine jo rfl rfl (map_get rfl rfl rfl rfl rfl rfl rfl rfl rfl trivial hks hf rfl) rfl rfl ?_)
   exact jR
 ·rw [decide_eq_false h0]
  have e1:(r3 != 0)=true:=by simpa using h0
  refine jC Tryz.func123 Tryz.ntmps123 (fun w0 β0 ext hβ=>?_)
  repeat (first|refine jS ?_|refine jD ?_|refine jB ?_)
  refine jBb [0,1,2,3] hp ?_
  repeat (first|refine jS ?_|refine jD ?_|refine jB ?_)
  rw [e1]
  repeat (first|refine jS ?_|refine jD ?_|refine jB ?_)
  exact jR
def rwhere (s w:Bs):Int × Int:=cond (rtarget (rsplit 10 s) w).2 ((rtarget (rsplit 10 s) w).1,0) (0,8)
theorem where_eq (s w:Bs):whereP s w=cond (decide ((rparse s).2.2=0)) (rwhere s w) (0,(rparse s).2.2):=by
 unfold whereP
 rw [parse_eq]
 by_cases h0:(rparse s).2.2=0
 ·rw [decide_eq_true h0]
  simp only [cond_true]
  obtain ⟨x,hs,hc,hx⟩:=lines_split s
  have hx0:x=[]:=by
   unfold rparse at h0
   by_cases h4:s.length > 40000
   ·rw [decide_eq_true h4] at h0;exact absurd h0 (by simp)
   ·rw [decide_eq_false h4] at h0
    simp only [cond_false] at h0
    have hlx:(rsplit 10 s).getLast? = some x:=by rw [hs];simp
    cases hb:bad1 (rpE (rlines s)) (rlines s).length with
    | some k =>
     rw [hb] at h0
     exact absurd h0 ((bad1_inv.2 k hb).2.2)
    | none =>
     rw [hb,hlx] at h0
     by_cases hx1:x=[]
     ·exact hx1
     ·rw [decide_eq_false (by simpa using hx1)] at h0
      exact absurd h0 (by simp)
  unfold look2 rwhere rtarget
  rw [labels_look,hs,hx0,List.findIdx?_append]
  have hno:([([]:Bs)].findIdx? fun l=>decide (l=w++[58]))=none:=by
   simp [List.findIdx?_cons]
  rw [hno]
  cases hf:(rlines s).findIdx? (fun l=>decide (l=w++[58])) with
  | none=>simp
  | some i =>
   have hi:i < (rlines s).length:=by
    have:=List.findIdx?_eq_some_iff_getElem.1 hf
    obtain ⟨h,_⟩:=this
    exact h
   simp only [Option.map_some,Option.orElse_some,cond_true,Option.some_or]
   have:nl (rlines s++[[]]) i=nl (rlines s) i:=by
    unfold nl
    rw [List.take_append_of_le_length (by omega)]
   simp [this]
 ·rw [decide_eq_false h0];rfl
end Go.AL
end
section
set_option maxRecDepth 100000
namespace Go.AL
open Go Go.Proofs Go.RowKit
theorem cc_used (b:Nat) (w:World) (h0:w.cell? ⟨b,0,none⟩=some (.pointer (some ⟨b,0,none⟩))) :
  Calls Tryz.prog 80 #[.pointer (some ⟨b,0,none⟩)] w fun e w'=>e = .returned (.tuple #[])∧w'=w:=by
 obtain ⟨j,hj,_⟩:=Option.map_eq_some_iff.1 (show (Tryz.prog.info? 86).map (·.size)=some 2 by kernel_rfl)
 go_enter Tryz.func80,Tryz.ntmps80
 go_wp2
 rw [Lib.run_neq_ptr_same w _ Tryz.underlying83 hj]
 go_wp2
 go_end0
 exact ⟨rfl,rfl⟩
theorem cc_fresh (b:Nat) (w:World) (h0:w.cell? ⟨b,0,none⟩=some (.pointer none)) (hsh:w.shape? b=some (86,2)) (hfz:w.frozen? ⟨b,0,none⟩=false) :
  Calls Tryz.prog 80 #[.pointer (some ⟨b,0,none⟩)] w fun e w'=>e = .returned (.tuple #[])∧w'=w.setCell ⟨b,0,none⟩ (.pointer (some ⟨b,0,none⟩)):=by
 obtain ⟨j,hj,hjs⟩:=Option.map_eq_some_iff.1 (show (Tryz.prog.info? 86).map (·.size)=some 2 by kernel_rfl)
 go_enter Tryz.func80,Tryz.ntmps80
 go_wp2
 rw [Lib.run_to_unsafe w ⟨b,0,none⟩ Tryz.underlying83 Tryz.underlying183 hj (by rw [hjs];decide) hsh (Nat.zero_lt_succ 1)]
 simp only [Result.andThen]
 rw [Oper.upon_value]
 go_wp2
 rw [run_callFunc_extern Tryz.func115 (by kernel_rfl) (by kernel_rfl) (by kernel_rfl) (e:=Extern.AbiNoEscape.same) (by kernel_rfl)]
 rw [Lib.run_noEscape]
 simp only [Result.andThen]
 rw [Oper.upon_value]
 go_wp2
 rw [Lib.run_from_unsafe w ⟨b,0,none⟩ Tryz.underlying183 Tryz.underlying83 hj hsh (by kernel_rfl)]
 simp only [Result.andThen]
 rw [Oper.upon_value]
 go_wp2
 go_end0
 exact ⟨rfl,rfl⟩
theorem bstr_row (b g cap:Nat) (p:Value) (cur:Array Value) (l:List UInt8) (w:World) (hbk:w.heap[b]? = some (.cells #[p,.slice (some ⟨g,0,none⟩) l.length cap] 86 (0,0))) (hg:w.heap[g]? = some (.cells cur 5 (0,0)))
  (h0:l≠[]) (hcap:l.length≤cap) (hcur:cur.size=cap) (h63:l.length≤9223372036854775807) (hc:∀ (j:Nat) (x:UInt8),l[j]? = some x→cur[j]? = some (Value.int .u8 x.toNat)) :
  Calls Tryz.prog 45 #[.pointer (some ⟨b,0,none⟩)] w fun e w'=>e = .returned (.string ⟨l.toArray⟩)∧w'=w.drew.freeze ⟨g,0,none⟩ l.length:=by
 have hl0:0 < l.length:=List.length_pos_iff.2 h0
 have c1:w.drew.cell? ⟨b,1,none⟩=some (.slice (some ⟨g,0,none⟩) l.length cap):=by
  have:w.drew.heap[b]? = some (.cells #[p,.slice (some ⟨g,0,none⟩) l.length cap] 86 (0,0)):=hbk
  rw [Lib.cell_of_heap this];rfl
 have hSD:(Builtin.unsafeSliceData_ #[84] 154 #[.slice (some ⟨g,0,none⟩) l.length cap]).run Tryz.prog w.drew = .ok (.pointer (some ⟨g,0,none⟩)) w.drew :=
  Lib.run_unsafeSliceData_row _ _ _ _ _ _ (by omega)
 have hUS:(Builtin.unsafeString_ #[154,3] 9 #[.pointer (some ⟨g,0,none⟩),.int .i64 l.length]).run Tryz.prog w.drew = .ok (.string ⟨l.toArray⟩) (w.drew.freeze ⟨g,0,none⟩ l.length):=by
  refine Lib.run_unsafeString_row w.drew 154 3 9 5 Tryz.underlying154 (by kernel_rfl) g cur.size (by have hg':w.drew.heap[g]? = some (.cells cur 5 (0,0)):=hg;simp [World.shape?,hg']) l h0 (by omega) h63 ?_
  intro j x hx
  have hg':w.drew.heap[g]? = some (.cells cur 5 (0,0)):=hg
  have:=hc j x hx
  simp only [Addr.add_lit,Nat.zero_add]
  rw [Lib.cell_of_heap hg']
  exact this
 go_enter Tryz.func45,Tryz.ntmps45
 go_wp2
 go_region
 all_goals (go_wp2;go_ret;exact ⟨rfl,rfl⟩)
end Go.AL
end
section
set_option maxRecDepth 100000
namespace Go.AL
open Go Go.Proofs
attribute [local irreducible] J
def adr (u:Bool):AVal:=cond u (.ptr 0 0) (.v (.pointer none))
def bldH (u:Bool) (g:Nat) (l:Bs):List AObj:=[.box 86 [adr u,.arr 1 g],.arr g 5 1 (l.map encB)]
theorem two_cells {vs:Array Value} {p s:Value} (h:vs.toList=[p,s]):vs = #[p,s]:=by
 apply Array.ext';simpa using h
theorem cc_ok (u:Bool) (g:Nat) (l:Bs):ACalls Tryz.prog 80 [.ptr 0 0] (bldH u g l) (one (.tup []) (bldH true g l)):=by
 refine ⟨⟨_,Tryz.func80,by kernel_rfl,by kernel_rfl⟩,fun ext w β us hI hx hr=>?_⟩
 obtain ⟨x,us',rfl,r0,rfl⟩:=hr
 obtain ⟨e,b,vs,he,hb,rfl,hc,hrl,hone,h0⟩:=box_of hI (j:=0) rfl r0
 obtain ⟨p,vs1,hvs,rp,s,vs2,rfl,rs,rfl⟩:=hrl
 obtain rfl:=two_cells hvs
 have hcell:w.cell? ⟨b,0,none⟩=some p:=by simp [World.cell?,hc]
 have hlt:b < w.heap.size:=(Array.getElem?_eq_some_iff.1 hc).1
 cases u with
 | true =>
  obtain ⟨e',b',he',h0',hb',rfl⟩:=rp
  rw [he] at he'
  obtain rfl:=Option.some.inj he'
  rw [hb] at hb'
  obtain rfl:=Option.some.inj hb'
  refine (cc_used b w hcell).mono fun en w' ⟨h1,h2⟩=>?_
  subst h1;subst h2
  exact ⟨.tup [],_,β,⟨rfl,rfl⟩,⟨#[],rfl,rfl⟩,hI,Step.refl _ _⟩
 | false =>
  have hp:p = .pointer none:=rp
  subst hp
  refine (cc_fresh b w hcell (by simp [World.shape?,hc]) (by simp [World.frozen?,hc])).mono fun en w' ⟨h1,h2⟩=>?_
  subst h1;subst h2
  have k1:(w.setCell ⟨b,0,none⟩ (.pointer (some ⟨b,0,none⟩))).heap[b]? = some (.cells #[.pointer (some ⟨b,0,none⟩),s] 86 (0,0)):=by
   simp [World.setCell,Array.getElem?_modify,hc]
  have k2:∀ c,c≠b→(w.setCell ⟨b,0,none⟩ (.pointer (some ⟨b,0,none⟩))).heap[c]? = w.heap[c]?:=fun c hne=>RowKit.Below.heap_setCell _ _ _ _ hne
  have k3:(w.setCell ⟨b,0,none⟩ (.pointer (some ⟨b,0,none⟩))).heap.size=w.heap.size:=by simp [World.setCell]
  have hst:Step w β (w.setCell ⟨b,0,none⟩ (.pointer (some ⟨b,0,none⟩))) β:=Step.write ⟨0,e,he,hb⟩ k3 k2 rfl rfl rfl
  have hI':=hI.write (a:=.box 86 [.ptr 0 0,.arr 1 g]) he hb k3 k2 rfl rfl rfl ⟨h0,rfl,b,_,hb,k1,_,_,rfl,⟨e,b,he,h0,hb,rfl⟩,_,_,rfl,rs.le (hst.le (ext:=ext)),rfl⟩
  exact ⟨.tup [],_,β,⟨rfl,rfl⟩,⟨#[],rfl,rfl⟩,hI',hst⟩
theorem bld_regen {f:FuncId} {args:List AVal} {H:List AObj} {v:AVal} {g g':Nat} {l:Bs} (hv:∀ c c' u,Rel c v u→Rel c' v u) (h:ACalls Tryz.prog f args H (one v (bldH true g l))) (hg:g≤g'):ACalls Tryz.prog f args H (one v (bldH true g' l)):=by
 rcases Nat.eq_or_lt_of_le hg with rfl|hlt
 ·exact h
 refine ⟨h.enters,fun ext w β us hI hx hr=>(h.calls ext w β us hI hx hr).mono fun en w' he=>?_⟩
 cases en with
 | returned u =>
  obtain ⟨v',H',β',⟨h1,rfl⟩,h2,h3,h4⟩:=he
  injection h1 with h1
  subst h1
  have hl:β'.length=2:=h3.len
  obtain ⟨e0,h0⟩:∃ e0,β'[0]? = some e0:=⟨_,List.getElem?_eq_getElem (by omega)⟩
  obtain ⟨e1,h1⟩:∃ e1,β'[1]? = some e1:=⟨_,List.getElem?_eq_getElem (by omega)⟩
  obtain ⟨q1,q0,q2,q3,q4,q5⟩:=h3.obj 1 _ e1 rfl h1
  obtain ⟨p1,p2,b,vs,hb,hc,p,vs1,hvs,rp,s,vs2,rfl,rs,rfl⟩:=h3.obj 0 _ e0 rfl h0
  obtain ⟨e2,f1,f2,f3,f4,f5⟩:∃ e2:Ent,e2.blk=e1.blk∧e2.gen=g'∧e2.es=e1.es∧e2.cap=e1.cap∧e2.len=e1.len:=⟨{ e1 with gen:=g' },rfl,rfl,rfl,rfl,rfl⟩
  have hreg:Step w' β' w' (β'.set 1 e2):=Step.regen h1 (by omega) (by omega) (.inr f1)
  have hxt:∀ b,ext b→b < w'.heap.size:=fun b hb=>Nat.lt_of_lt_of_le (hx b hb) h4.size
  have hI1:=h3.set (a:=.arr g' 5 1 (l.map encB)) hxt h1 hreg (fun _ _ _=>rfl) (.inr (.inr f1)) ⟨f2,by omega,f3.trans q2,f5.trans q3,by rw [f4];exact q4,by
   rw [f1,f4]
   cases hk:e1.blk with
   | none=>rw [hk] at q5;exact q5
   | some bk =>
    rw [hk] at q5
    obtain ⟨cs,z1,z2,z3⟩:=q5
    exact ⟨cs,z1,z2,z3.le (hreg.le (ext:=ext)).bare _ _ _ _⟩⟩
  have h0':(β'.set 1 e2)[0]? = some e0:=by rw [List.getElem?_set_ne (by omega)];exact h0
  have h1':(β'.set 1 e2)[1]? = some e2:=List.getElem?_set_self (by omega)
  obtain ⟨rs1,ee,rs2,rs3,rs4⟩:=rs
  rw [h1] at rs2
  obtain rfl:=Option.some.inj rs2
  have rsn:Rel (ctx ext w' (β'.set 1 e2)) (.arr 1 g') s:=by
   obtain ⟨z1,z2⟩:=rs4 q1
   exact ⟨rs1,_,h1',by omega,fun _=>⟨by omega,by rw [f1,f4,f5];exact z2⟩⟩
  have hI2:=hI1.write (w':=w') (a:=.box 86 [.ptr 0 0,.arr 1 g']) h0' hb rfl (fun _ _=>rfl) rfl rfl rfl ⟨p1,rfl,b,vs,hb,hc,p,_,hvs,rp.le (hreg.le (ext:=ext)),s,[],rfl,rsn,rfl⟩
  exact ⟨_,_,_,⟨rfl,rfl⟩,hv _ _ _ h2,hI2,h4.trans hreg⟩
 | panicked ch=>obtain ⟨u,_,v',H',β',⟨h1,_⟩,_⟩:=he;cases h1
 | outgrown=>exact he.elim
theorem encB_elems (l:Bs):ElemsOk 1 (l.map encB):=elems_map l fun x=>⟨rfl,rfl⟩
theorem wstr_g (u:Bool) (g:Nat) (l s:Bs) (hl:l.length+s.length≤1000000000):ACalls Tryz.prog 39 [.ptr 0 0,sv s] (bldH u g l) (one (.tup [iv s.length,.v .nilIface]) (bldH true (g+1) (l++s))):=by
 have hc:=cc_ok u g l
 have hlen:(l.map encB).length+s.length≤140737488355328:=by rw [List.length_map];omega
 have he:=encB_elems l
 unfold bldH at *
 cases u
 all_goals refine jC Tryz.func39 Tryz.ntmps39 (fun w0 β0 ext hβ=>?_)
 all_goals (
  repeat (first|refine jS ?_|refine jD ?_|refine jB ?_)
 )
 all_goals refine jBb [0,1] hc ?_
 all_goals (
  repeat (first|refine jS ?_|refine jD ?_|refine jB ?_|refine jo rfl rfl (append_text rfl rfl rfl rfl rfl rfl rfl rfl rfl rfl rfl he hlen) rfl rfl ?_)
 )
 all_goals rw [←List.map_append]
 all_goals exact jR
def bld (u:Bool) (l:Bs):List AObj:=bldH u (l.length+1) l
theorem plainT (x y:Value):∀ c c' u,Rel c (.tup [.v x,.v y]) u→Rel c' (.tup [.v x,.v y]) u:=fun c c' u ⟨a,h1,p,r,e,hp,q,r2,e2,hq,e3⟩=>⟨a,h1,p,r,e,hp,q,r2,e2,hq,e3⟩
theorem wstr_ok (u:Bool) (l s:Bs) (hs:0 < s.length) (hl:l.length+s.length≤1000000000):ACalls Tryz.prog 39 [.ptr 0 0,sv s] (bld u l) (one (.tup [iv s.length,.v .nilIface]) (bld true (l++s))) :=
 bld_regen (plainT _ _) (wstr_g u (l.length+1) l s hl) (by rw [List.length_append];omega)
theorem freeze_size (w:World) (a:Addr) (n:Nat):(w.freeze a n).heap.size=w.heap.size:=by
 unfold World.freeze;split<;>simp
theorem freeze_other (w:World) (a:Addr) (n:Nat) {c:Nat} (h:c≠a.block):(w.freeze a n).heap[c]? = w.heap[c]?:=by
 unfold World.freeze
 split
 ·rfl
 ·simp only [Array.getElem?_modify]
  rw [if_neg (fun e=>h e.symm)]
theorem str_ok (u:Bool) (l:Bs) (h0:l≠[]) (h63:l.length≤1000000000):ACalls Tryz.prog 45 [.ptr 0 0] (bld u l) (one (sv l) [.box 86 [adr u,.arr 1 (l.length+1)],.dead (l.length+2)]):=by
 unfold bld bldH
 refine ⟨⟨_,Tryz.func45,by kernel_rfl,by kernel_rfl⟩,fun ext w β us hI hx hr=>?_⟩
 obtain ⟨x,us',rfl,r0,rfl⟩:=hr
 obtain ⟨e,b,vs,he,hb,rfl,hc,hrl,hone,hg0⟩:=box_of hI (j:=0) rfl r0
 obtain ⟨p,vs1,hvs,rp,s,vs2,rfl,rs,rfl⟩:=hrl
 obtain rfl:=two_cells hvs
 obtain ⟨e1,h1,q1,q0,q2,q3,q4,q5⟩:=arr_open hI (j:=1) rfl rs
 have hl0:0 < l.length:=List.length_pos_iff.2 h0
 rw [List.length_map] at q3 q4
 rcases q5 with ⟨_,hn,_⟩|⟨bk,cs,hbk,rfl,hcs,hsz,hrow⟩
 ·exact absurd (List.map_eq_nil_iff.1 hn) h0
 rw [Nat.mul_one] at hsz
 rw [List.length_map] at hc
 refine (bstr_row b bk e1.cap p cs l w hc hcs h0 (by omega) hsz (by omega) fun j c hj=>?_).mono fun en w' ⟨k1,k2⟩=>?_
 ·obtain ⟨v,hv1,hv2,hv3⟩:=hrow.get (i:=j) (a:=encB c) (by rw [List.getElem?_map,hj];rfl)
  have hv:v = .int .u8 c.toNat:=hv1
  subst hv
  have h9:=hv3 0 (by omega)
  simp only [Nat.zero_add,Nat.mul_one,Nat.add_zero] at h9
  exact h9.trans rfl
 ·subst k1;subst k2
  have hS1:Step w β w.drew β:=(drew_same w).step β
  have hS2:Step w.drew β (w.drew.freeze ⟨bk,0,none⟩ l.length) β:=Step.write ⟨1,e1,h1,hbk⟩ (freeze_size _ _ _) (fun c hc=>freeze_other _ _ _ hc) (by unfold World.freeze;split<;>rfl) (by unfold World.freeze;split<;>rfl) (by unfold World.freeze;split<;>rfl)
  have hS3:Step (w.drew.freeze ⟨bk,0,none⟩ l.length) β (w.drew.freeze ⟨bk,0,none⟩ l.length) (β.set 1 ⟨none,l.length+2,1,0,0⟩):=Step.regen h1 (by omega) (by simp only;omega) (.inl rfl)
  have hS:=(hS1.trans hS2).trans hS3
  refine ⟨_,_,_,⟨rfl,rfl⟩,rfl,hI.set (a:=.dead (l.length+2)) hx h1 hS (fun c hc hne=>?_) (.inr (.inl rfl)) ⟨rfl,by omega,rfl⟩,hS⟩
  exact (freeze_other _ _ _ (fun e=>hne (by rw [hbk,e]))).trans rfl
end Go.AL
end
section
set_option maxRecDepth 100000
namespace Go.AL
open Go Go.Proofs
def ltx (ls:List Bs):Bs:=ls.flatMap (· ++ [10])
theorem ltx_app (a b:List Bs):ltx (a++b)=ltx a++ltx b:=by simp [ltx]
theorem ltx_cons (a:Bs) (b:List Bs):ltx (a::b)=a++[10]++ltx b:=by simp [ltx]
theorem rsplit_ltx {ls:List Bs} (h:∀ l∈ls,(10:UInt8) ∉ l):rsplit 10 (ltx ls)=ls++[[]]:=by
 rw [rsplit_eq];exact cuts_lines 10 ls h
theorem rlines_ltx {ls:List Bs} (h:∀ l∈ls,(10:UInt8) ∉ l):rlines (ltx ls)=ls:=by
 unfold rlines;rw [rsplit_ltx h];simp
def LnOk (ls:List Bs) (l:Bs):Option Ins→Prop
 | none=>rlab l=true∧rname l.dropLast=true
 | some i=>rlab l=false∧∃ k ws,LineOk ls l k ws∧insOf ls k ws=i
theorem lines_state (x:List (Bs × Option Ins)) (h:∀ y∈x,LnOk (x.map (·.1)) y.1 y.2) (hd:((x.map (·.1)).filter fun l=>rlab l).Nodup) (hc:(x.filterMap (·.2)).length≤1000) :
  ∀ k,k≤x.length→rpSt (x.map (·.1)) k=(x.take k).filterMap (·.2)∧∀ q,q < k→rpE (x.map (·.1)) q=0
 | 0,_=>⟨by simp [rpSt],fun q hq=>absurd hq (by omega)⟩
 | k+1,hk=>by
  obtain ⟨i1,i2⟩:=lines_state x h hd hc k (by omega)
  have hk2:k < x.length:=by omega
  have hkl:k < (x.map (·.1)).length:=by rw [List.length_map];exact hk2
  have hat:(x.map (·.1))[k]=x[k].1:=by simp
  have hs:=rpSt_succ hkl
  have ht:(x.take (k+1)).filterMap (·.2)=(x.take k).filterMap (·.2)++(match x[k].2 with|none=>[]|some i=>[i]):=by
   rw [List.take_succ_eq_append_getElem hk2,List.filterMap_append]
   congr 1
   cases e:x[k].2<;>simp [e]
  have hlk:=h x[k] (List.getElem_mem hk2)
  rw [hat] at hs
  have hE:rpE (x.map (·.1)) k=cond (rlab x[k].1) (cond (rname x[k].1.dropLast) (cond (((x.map (·.1)).take k).any fun l=>decide (l=x[k].1)) 11 0) 12) (rinstr (x.map (·.1)) x[k].1 (rpSt (x.map (·.1)) k).length).2:=by
   unfold rpE
   rw [getD_at hkl,hat]
  have hnext:rpE (x.map (·.1)) k=0→∀ q,q < k+1→rpE (x.map (·.1)) q=0:=fun h0 q hq=>by
   by_cases e:q=k
   ·subst e;exact h0
   ·exact i2 q (by omega)
  cases e:x[k].2 with
  | none =>
   rw [e] at hlk ht
   obtain ⟨l1,l2⟩:=hlk
   rw [l1] at hs hE
   rw [l2] at hE
   simp only [cond_true] at hs hE
   refine ⟨by rw [hs,ht,i1];simp,hnext ?_⟩
   rw [hE]
   have hno:((x.map (·.1)).take k).any (fun l=>decide (l=x[k].1))=false:=by
    rw [List.any_eq_false]
    intro l hl e2
    have e2:=of_decide_eq_true e2
    subst e2
    have hsp:x.map (·.1)=(x.map (·.1)).take k++(x.map (·.1))[k]::(x.map (·.1)).drop (k+1):=by
     rw [←List.drop_eq_getElem_cons hkl,List.take_append_drop]
    rw [hsp,List.filter_append,hat,List.filter_cons_of_pos (by simpa using l1)] at hd
    have:=(List.nodup_append.1 hd).2.2 x[k].1 (List.mem_filter.2 ⟨hl,by simpa using l1⟩) x[k].1 (List.mem_cons_self ..)
    exact this rfl
   rw [hno];rfl
  | some i =>
   rw [e] at hlk ht
   obtain ⟨l1,kk,ws,l2,l3⟩:=hlk
   rw [l1] at hs hE
   simp only [cond_false] at hs hE
   have hlen:((x.take (k+1)).filterMap (·.2)).length≤(x.filterMap (·.2)).length:=((List.take_sublist (k+1) x).filterMap _).length_le
   have hl2:(rpSt (x.map (·.1)) k).length < 1000:=by
    rw [i1]
    rw [ht] at hlen
    simp at hlen
    omega
   have hr:=rinstr_of l2 ((rpSt (x.map (·.1)) k).length:Int)
   rw [decide_eq_false (by omega:¬((rpSt (x.map (·.1)) k).length:Int)≥1000),l3] at hr
   simp only [cond_false] at hr
   rw [hr] at hs hE
   exact ⟨by rw [hs,ht,i1],hnext hE⟩
theorem of_lines (x:List (Bs × Option Ins)) (h:∀ y∈x,LnOk (x.map (·.1)) y.1 y.2) (hd:((x.map (·.1)).filter fun l=>rlab l).Nodup) (hn:∀ l∈x.map (·.1),(10:UInt8) ∉ l)
  (hl:(ltx (x.map (·.1))).length≤40000) (hc:(x.filterMap (·.2)).length≤1000):rparse (ltx (x.map (·.1)))=(x.filterMap (·.2),0,0):=by
 obtain ⟨h1,h2⟩:=lines_state x h hd hc x.length (Nat.le_refl _)
 rw [List.take_length] at h1
 have hll:(x.map (·.1)).length=x.length:=List.length_map _
 unfold rparse
 rw [decide_eq_false (by omega:¬(ltx (x.map (·.1))).length > 40000),rlines_ltx hn,rsplit_ltx hn,hll,bad1_none h2]
 simp only [cond_false]
 rw [h1]
 simp
theorem where_ltx {ls:List Bs} (hn:∀ l∈ls,(10:UInt8) ∉ l) (hp:(rparse (ltx ls)).2.2=0) {w:Bs} {p:Int} (ht:rtarget ls w=(p,true)):whereP (ltx ls) w=(p,0):=by
 rw [where_eq,hp]
 unfold rwhere
 rw [rsplit_ltx hn,tgt_l [[]] (by rw [ht]),ht];rfl
theorem tgt_pre {l1:List Bs} (l2:List Bs) {w:Bs} {p:Int} (h:rtarget l1 w=(p,true)):rtarget (l1++l2) w=(p,true):=by
 rw [tgt_l l2 (by rw [h]),h]
def tgD (tg:List (Bs × Int)) (s:Bs):Int × Int:=match tg.lookup s with|some p=>(p,0)|none=>(0,11)
def ropD (tg:List (Bs × Int)) (k:UInt8) (s:Bs):Int × Int:=cond (decide (k=114)) (rdR s) (cond (decide (k=110)) (ropN s) (cond (rname s) (tgD tg s) (0,3)))
def tgOk (ls:List Bs) (tg:List (Bs × Int)):Prop:=∀ w p,tg.lookup w=some p→rtarget ls w=(p,true)
theorem tgOk_of {ls:List Bs} {tg:List (Bs × Int)} (h:∀ y∈tg,rtarget ls y.1=(y.2,true)):tgOk ls tg:=fun w p hw=>by
 induction tg with
 | nil=>cases hw
 | cons y ys ih =>
  rw [List.lookup_cons] at hw
  split at hw
  ·rename_i he
   have e1:w=y.1:=by simpa using he
   injection hw with e2
   rw [e1,←e2]
   exact h y (List.mem_cons_self ..)
  ·exact ih (fun z hz=>h z (List.mem_cons_of_mem _ hz)) hw
theorem ropD_ok {ls:List Bs} {tg:List (Bs × Int)} (h:tgOk ls tg) {k:UInt8} {s:Bs} (h0:(ropD tg k s).2=0):rop ls k s=ropD tg k s:=by
 unfold ropD at h0 ⊢
 unfold rop ropT
 cases h1:decide (k=114) with
 | true=>rfl
 | false =>
  cases h2:decide (k=110) with
  | true=>rfl
  | false =>
   rw [h1,h2] at h0
   cases h3:rname s with
   | false=>rfl
   | true =>
    rw [h3] at h0
    simp only [cond_false,cond_true] at h0 ⊢
    unfold tgD at h0 ⊢
    cases h4:tg.lookup s with
    | none=>rw [h4] at h0;cases h0
    | some p=>rw [h _ _ h4];rfl
def allD (tg:List (Bs × Int)):Bs→List Bs→Option (List Int)
 | [],[]=>some []
 | c::cs,w::ws=>cond (decide ((ropD tg c w).2=0)) ((allD tg cs ws).map ((ropD tg c w).1 :: ·)) none
 | _,_=>none
theorem allD_ok {ls:List Bs} {tg:List (Bs × Int)} (h:tgOk ls tg):∀ (kd:Bs) (ws:List Bs) (vs:List Int),allD tg kd ws=some vs →
  ws.length=kd.length∧(∀ q,q < kd.length→(rop ls (kd.getD q 0) (ws.getD q [])).2=0)∧(rAll ls kd ws).1=vs
 | [],[],vs,e=>by
  cases e
  exact ⟨rfl,fun q hq=>absurd hq (by simp),by simp [rAll]⟩
 | [],_::_,vs,e=>by cases e
 | _::_,[],vs,e=>by cases e
 | c::cs,w::ws,vs,e=>by
  unfold allD at e
  cases h1:decide ((ropD tg c w).2=0) with
  | false=>rw [h1] at e;cases e
  | true =>
   rw [h1] at e
   simp only [cond_true] at e
   have h1:=of_decide_eq_true h1
   have hr:=ropD_ok h h1
   cases h2:allD tg cs ws with
   | none=>rw [h2] at e;cases e
   | some us =>
    rw [h2] at e
    simp only [Option.map_some,Option.some.injEq] at e
    subst e
    obtain ⟨k1,k2,k3⟩:=allD_ok h cs ws us h2
    refine ⟨by simp [k1],fun q hq=>?_,?_⟩
    ·cases q with
     | zero=>show (rop ls c w).2=0;rw [hr];exact h1
     | succ q=>exact k2 q (by simpa using hq)
    ·unfold rAll
     rw [hr,decide_eq_true h1,k3];rfl
def lineD (tg:List (Bs × Int)) (l:Bs):Option Ins :=
 match rsplit 32 l with
 | []=>none
 | w::ws=>cond (decide (0≤findOp w)&&decide ((findOp w).toNat < 27))
   ((allD tg (at' opsT (((findOp w).toNat:Nat):Int)).2 ws).map fun vs=>⟨(((findOp w).toNat:Nat):Int),vs.getD 0 0,vs.getD 1 0,vs.getD 2 0⟩) none
def lnD (tg:List (Bs × Int)) (l:Bs):Option (Option Ins):=cond (rlab l) (cond (rname l.dropLast) (some none) none) ((lineD tg l).map some)
theorem lnD_ok {ls:List Bs} {tg:List (Bs × Int)} (h:tgOk ls tg) {l:Bs} {o:Option Ins} (e:lnD tg l=some o):LnOk ls l o:=by
 unfold lnD at e
 cases h1:rlab l with
 | true =>
  rw [h1] at e
  cases h2:rname l.dropLast with
  | false=>rw [h2] at e;cases e
  | true =>
   rw [h2] at e
   cases e
   exact ⟨h1,h2⟩
 | false =>
  rw [h1] at e
  simp only [cond_false] at e
  unfold lineD at e
  cases h2:rsplit 32 l with
  | nil=>rw [h2] at e;cases e
  | cons w ws =>
   rw [h2] at e
   simp only at e
   cases h3:decide (0≤findOp w)&&decide ((findOp w).toNat < 27) with
   | false=>rw [h3] at e;cases e
   | true =>
    rw [h3] at e
    simp only [cond_true] at e
    rw [Bool.and_eq_true] at h3
    have h4:=of_decide_eq_true h3.1
    have h5:=of_decide_eq_true h3.2
    have hk:findOp w=(((findOp w).toNat:Nat):Int):=by omega
    generalize (findOp w).toNat=k at *
    cases h6:allD tg (at' opsT (k:Int)).2 ws with
    | none=>rw [h6] at e;cases e
    | some vs =>
     rw [h6] at e
     simp only [Option.map_some,Option.some.injEq] at e
     subst e
     obtain ⟨k1,k2,k3⟩:=allD_ok h _ _ _ h6
     refine ⟨h1,k,ws,⟨h5,⟨w,h2,hk⟩,k1,k2⟩,?_⟩
     unfold insOf
     rw [k3]
def blk (tg:List (Bs × Int)) (C:List Bs):List (Bs × Option Ins):=C.map fun l=>(l,(lnD tg l).getD none)
theorem blk_ok {ls:List Bs} {tg:List (Bs × Int)} (h:tgOk ls tg) {C:List Bs} (hC:(C.all fun l=>(lnD tg l).isSome)=true):∀ y∈blk tg C,LnOk ls y.1 y.2:=fun y hy=>by
 obtain ⟨l,hl,rfl⟩:=List.mem_map.1 hy
 have:=List.all_eq_true.1 hC l hl
 cases e:lnD tg l with
 | none=>rw [e] at this;cases this
 | some o =>
  simp only [e,Option.getD_some]
  exact lnD_ok h e
theorem blk_lines (tg:List (Bs × Int)) (C:List Bs):(blk tg C).map (·.1)=C:=by
 unfold blk
 rw [List.map_map]
 exact List.map_id'' (fun _=>rfl) C
theorem pr_ok (ls:List Bs) {i:Ins} (hm:mayI 1000 i=true) (ht:(kdO i.op.toNat).all (fun c=>!decide (c=116))=true):LnOk ls (prL i) (some i):=by
 obtain ⟨k,hk,hop⟩:=mayI_op hm
 have hko:i.op.toNat=k:=by omega
 refine ⟨prL_lab (by omega),_,_,prL_ok (l:=List.replicate 1000 i) (ls:=ls) (by simp) (fun n hn hT=>?_) (List.mem_replicate.2 ⟨by decide,rfl⟩) (by rw [List.length_replicate];exact hm)⟩
 exfalso
 unfold isT at hT
 obtain ⟨j,hj,hT⟩:=List.any_eq_true.1 hT
 rw [List.eq_of_mem_replicate hj] at hT
 unfold hasT at hT
 obtain ⟨p,hp,hT⟩:=List.any_eq_true.1 hT
 have h1:=List.all_eq_true.1 ht p.1 (List.of_mem_zip hp).1
 simp at h1 hT
 exact h1 hT.1
end Go.AL
end
section
set_option maxRecDepth 100000
namespace Go.AL
open Go Go.Proofs
theorem rop_may {ls:List Bs} {c:UInt8} {s:Bs} {N:Nat} (hN:nl ls ls.length=(N:Int)) (hc:c=114∨c=110∨c=116) (h:(rop ls c s).2=0):mayV (some c) N (rop ls c s).1=true:=by
 unfold mayV
 refine inn_iff.2 ?_
 rcases hc with rfl|rfl|rfl
 ·show (0:Int)≤(rdR s).1∧(rdR s).1≤7
  have h:(rdR s).2=0:=h
  rcases s with _|⟨a,_|⟨b,_|⟨c,t⟩⟩⟩
  ·exact absurd (show (3:Int)=0 from h) (by decide)
  ·exact absurd (show (3:Int)=0 from h) (by decide)
  ·have e0:rdR [a,b]=cond (decide (a.toNat=114)) (cond (inn b.toNat 48 55) ((b.toNat:Int)-48,0) (0,3)) (0,3):=rfl
   rw [e0] at h ⊢
   cases h1:decide (a.toNat=114) with
   | false=>rw [h1] at h;exact absurd (show (3:Int)=0 from h) (by decide)
   | true =>
    rw [h1] at h
    cases h2:inn b.toNat 48 55 with
    | false=>rw [h2] at h;exact absurd (show (3:Int)=0 from h) (by decide)
    | true =>
     obtain ⟨k1,k2⟩:=inn_iff.1 h2
     simp only [cond_true]
     exact ⟨by omega,by omega⟩
  ·exact absurd (show (3:Int)=0 from h) (by decide)
 ·show (-1000000000:Int)≤(ropN s).1∧(ropN s).1≤1000000000
  exact ropN_bd s
 ·show (0:Int)≤(ropT ls s).1∧(ropT ls s).1≤(N:Int)
  unfold ropT
  cases rname s
  ·exact ⟨Int.le_refl 0,by simp⟩
  ·unfold rtarget
   cases hf:ls.findIdx? (fun l=>decide (l=s++[58])) with
   | none=>exact ⟨Int.le_refl 0,by simp⟩
   | some i =>
    obtain ⟨hi,_⟩:=List.findIdx?_eq_some_iff_getElem.1 hf
    have h1:=nl_le ls i
    have h2:=nl_mono ls (show i≤ls.length by omega)
    simp only [cond_true]
    exact ⟨h1.1,by omega⟩
theorem insOf_may {ls:List Bs} {l:Bs} {k:Nat} {ws:List Bs} {N:Nat} (hN:nl ls ls.length=(N:Int)) (h:LineOk ls l k ws):mayI N (insOf ls k ws)=true:=by
 obtain ⟨hk,hw,hln,ha⟩:=h
 have hkd:=(kd_of k hk).2
 have hg:∀ q,mayV (kdO k)[q]? N ((rAll ls (at' opsT (k:Int)).2 ws).1.getD q 0)=true:=fun q=>by
  rw [rAll_get hln ha]
  by_cases hq:q < (at' opsT (k:Int)).2.length
  ·rw [decide_eq_true hq]
   have hq2:q < (kdO k).length:=hq
   rw [List.getElem?_eq_getElem hq2]
   have hm:=List.all_eq_true.1 hkd _ (List.getElem_mem hq2)
   have he:(at' opsT (k:Int)).2.getD q 0=(kdO k)[q]:=by
    show (kdO k).getD q 0=_
    simp [List.getD,hq2]
   rw [he]
   have ha:=ha q hq
   rw [he] at ha
   refine rop_may hN ?_ ha
   simpa using hm
  ·rw [decide_eq_false hq]
   have hq2:(kdO k).length≤q:=by
    have:¬q < (kdO k).length:=hq
    omega
   rw [List.getElem?_eq_none hq2]
   rfl
 unfold mayI insOf
 simp only
 have e:((k:Int)).toNat=k:=by omega
 rw [e,hg 0,hg 1,hg 2,inn_iff.2 (show (0:Int)≤(k:Int)∧(k:Int)≤26 from ⟨by omega,by omega⟩)]
 rfl
theorem rpSt_may {ls:List Bs} {N:Nat} (hN:nl ls ls.length=(N:Int)) (hz:∀ q,q < ls.length→rpE ls q=0):∀ k,k≤ls.length→(rpSt ls k).length≤1000∧∀ i∈rpSt ls k,mayI N i=true
 | 0,_=>⟨by simp [rpSt],fun i h=>absurd h (by simp [rpSt])⟩
 | k+1,hk=>by
  have hk2:k < ls.length:=by omega
  obtain ⟨i1,i2⟩:=rpSt_may hN hz k (by omega)
  have hE:=hz k hk2
  unfold rpE at hE
  rw [getD_at hk2] at hE
  rw [rpSt_succ hk2]
  cases hr:rlab ls[k] with
  | true=>exact ⟨i1,i2⟩
  | false =>
   rw [hr] at hE
   simp only [cond_false] at hE ⊢
   obtain ⟨kk,ws,hL,hn,e⟩:=rinstr_inv hE
   rw [e]
   refine ⟨by simp;omega,fun i h=>?_⟩
   rcases List.mem_append.1 h with h|h
   ·exact i2 i h
   ·rw [List.mem_singleton.1 h]
    exact insOf_may hN hL
theorem parse_right {s:Bs} (h:(rparse s).2.2=0):rightC (rparse s).1=true:=by
 obtain ⟨h1,h2,h3,h4⟩:=rparse_good h
 rw [h4]
 have hN:=(rpSt_nl (rlines s) _ (Nat.le_refl _)).symm
 obtain ⟨k1,k2⟩:=rpSt_may hN h3 _ (Nat.le_refl _)
 unfold rightC
 rw [decide_eq_true k1,Bool.true_and,List.all_eq_true]
 exact k2
theorem where_right {s w:Bs} (h:(rparse s).2.2=0):0≤(rwhere s w).1∧(rwhere s w).1≤(rparse s).1.length:=by
 obtain ⟨h1,h2,h3,h4⟩:=rparse_good h
 rw [h4]
 unfold rwhere
 rw [h2]
 cases hb:(rtarget (rlines s++[[]]) w).2 with
 | false=>exact ⟨Int.le_refl 0,by simp⟩
 | true =>
  simp only [cond_true]
  have hN:=rpSt_nl (rlines s) _ (Nat.le_refl _)
  unfold rtarget at hb ⊢
  cases hf:(rlines s++[[]]).findIdx? (fun l=>decide (l=w++[58])) with
  | none=>rw [hf] at hb;cases hb
  | some i =>
   obtain ⟨hi,hi2,_⟩:=List.findIdx?_eq_some_iff_getElem.1 hf
   simp only
   rw [hN]
   have hil:i≤(rlines s).length:=by simp at hi;omega
   rw [nl_left _ _ hil]
   have:=nl_le (rlines s) i
   have:=nl_mono (rlines s) hil
   omega
end Go.AL
end
section
set_option maxRecDepth 100000
namespace Go.AL
open Go Go.Proofs
def chC:List Bs:=[[102,105,110,100,58],[108,111,97,100,32,114,48,32,114,48,32,48],[102,105,110,100,49,58],[122,101,114,111,32,114,48,32,102,111,117,110,100],[108,111,97,100,32,114,50,32,114,48,32,48],[115,117,98,32,114,50,32,114,50,32,114,49],[122,101,114,111,32,114,50,32,102,111,117,110,100],[108,111,97,100,32,114,48,32,114,48,32,50],[106,117,109,112,32,102,105,110,100,49],[102,111,117,110,100,58],[114,101,116],[115,101,101,107,58],[108,111,97,100,32,114,50,32,114,48,32,48],[122,101,114,111,32,114,50,32,115,111,117,103,104,116],[108,111,97,100,32,114,51,32,114,50,32,48],[115,117,98,32,114,51,32,114,51,32,114,49],[122,101,114,111,32,114,51,32,115,111,117,103,104,116],[112,108,117,115,32,114,48,32,114,50,32,50],[106,117,109,112,32,115,101,101,107],[115,111,117,103,104,116,58],[114,101,116],[116,48,58]]
def chTg:List (Bs × Int):=[([102,105,110,100],0),([102,105,110,100,49],1),([102,111,117,110,100],7),([115,101,101,107],8),([115,111,117,103,104,116],15)]
def setK (k:Int):Bs:=[115,101,116,32,114,49,32]++Lib.itoa k
def kA:List Bs:=[[115,101,116,32,114,48,32,49]]
def kB:List Bs:=[[99,97,108,108,32,102,105,110,100],[109,97,114,107,32,54],[115,101,116,32,114,48,32,49]]
def kC:List Bs:=[[99,97,108,108,32,115,101,101,107],[109,97,114,107,32,55]]
def kH:List Bs:=[[104,97,108,116]]
def keyLn (k:Int):List Bs:=kA++setK k::(kB++setK k::kC)
def keyIt (k:Int):List (Bs × Option Ins):=blk chTg kA++(setK k,some ⟨1,1,k,0⟩)::(blk chTg kB++(setK k,some ⟨1,1,k,0⟩)::blk chTg kC)
def chLn (ks:List Int):List Bs:=chC++(ks.flatMap keyLn++kH)
def chIt (ks:List Int):List (Bs × Option Ins):=blk chTg chC++(ks.flatMap keyIt++blk chTg kH)
def chCode (ks:List Int):List Ins:=(chIt ks).filterMap (·.2)
theorem keyIt_ln (k:Int):(keyIt k).map (·.1)=keyLn k:=by
 unfold keyIt keyLn
 simp only [List.map_append,List.map_cons,blk_lines]
theorem chIt_ln (ks:List Int):(chIt ks).map (·.1)=chLn ks:=by
 unfold chIt chLn
 simp only [List.map_append,blk_lines,List.map_flatMap]
 simp only [keyIt_ln]
theorem ch_all:((chC++(kA++(kB++(kC++kH)))).all fun l=>(lnD chTg l).isSome)=true:=by decide +kernel
theorem ch_tg (ks:List Int):tgOk (chLn ks) chTg:=by
 refine tgOk_of fun y hy=>tgt_pre _ ?_
 revert y
 decide +kernel
theorem setK_pr (k:Int):setK k=prL ⟨1,1,k,0⟩:=by
 unfold setK prL
 show _=_++((32::prW 114 1)++((32::prW 110 k)++[]))
 show _=nm 1++((32::prW 114 1)++((32::(pfx 110++Lib.itoa k))++[]))
 rw [show nm 1=[115,101,116] by decide +kernel,show prW 114 1=[114,49] by decide +kernel,show pfx 110=[] from rfl]
 simp
theorem setK_ok (ls:List Bs) {k:Int} (h:bd k):LnOk ls (setK k) (some ⟨1,1,k,0⟩):=by
 rw [setK_pr]
 refine pr_ok ls ?_ (show ((kdO 1).all fun c=>!decide (c=116))=true by decide)
 unfold mayI
 rw [show inn (1:Int) 0 26=true by decide]
 simp only
 rw [show mayV (kdO (1:Int).toNat)[0]? 1000 1=true by decide,show mayV (kdO (1:Int).toNat)[2]? 1000 0=true by decide]
 show (true&&(true&&(inn k (-1000000000) 1000000000&&true)))=true
 rw [inn_iff.2 h];rfl
theorem setK_lab (k:Int):rlab (setK k)=false:=by rw [setK_pr];exact prL_lab (show (1:Int).toNat < 27 by decide)
theorem setK_no (k:Int):(10:UInt8) ∉ setK k:=by rw [setK_pr];exact prL_no (show (1:Int).toNat < 27 by decide) (by decide) (by decide)
theorem setK_len {k:Int} (h:bd k):(setK k).length≤18:=by
 have:=itoa_len h
 unfold setK
 simp
 omega
theorem blk_mem {ls:List Bs} {tg:List (Bs × Int)} (h:tgOk ls tg) {C D:List Bs} (hC:(D.all fun l=>(lnD tg l).isSome)=true) (hs:∀ l∈C,l∈D):∀ y∈blk tg C,LnOk ls y.1 y.2 :=
 blk_ok h (List.all_eq_true.2 fun l hl=>List.all_eq_true.1 hC l (hs l hl))
theorem key_ok (ks:List Int) {k:Int} (h:bd k):∀ y∈keyIt k,LnOk (chLn ks) y.1 y.2:=fun y hy=>by
 have ht:=ch_tg ks
 unfold keyIt at hy
 rcases List.mem_append.1 hy with h1|h1
 ·exact blk_mem ht ch_all (fun l hl=>by simp [hl]) y h1
 rcases List.mem_cons.1 h1 with rfl|h1
 ·exact setK_ok _ h
 rcases List.mem_append.1 h1 with h1|h1
 ·exact blk_mem ht ch_all (fun l hl=>by simp [hl]) y h1
 rcases List.mem_cons.1 h1 with rfl|h1
 ·exact setK_ok _ h
 ·exact blk_mem ht ch_all (fun l hl=>by simp [hl]) y h1
theorem chIt_ok (ks:List Int) (h:∀ k∈ks,bd k):∀ y∈chIt ks,LnOk (chLn ks) y.1 y.2:=fun y hy=>by
 unfold chIt at hy
 rcases List.mem_append.1 hy with h1|h1
 ·exact blk_mem (ch_tg ks) ch_all (fun l hl=>by simp [hl]) y h1
 rcases List.mem_append.1 h1 with h1|h1
 ·obtain ⟨k,hk,hy⟩:=List.mem_flatMap.1 h1
  exact key_ok ks (h k hk) y hy
 ·exact blk_mem (ch_tg ks) ch_all (fun l hl=>by simp [hl]) y h1
theorem key_lab (k:Int):(keyLn k).filter (fun l=>rlab l)=[]:=by
 unfold keyLn
 simp only [List.filter_append,List.filter_cons,setK_lab,Bool.false_eq_true,if_false]
 decide +kernel
theorem flat_nil {α β:Type} (f:α→List β) (l:List α) (h:∀ x∈l,f x=[]):l.flatMap f=[]:=List.flatMap_eq_nil_iff.2 h
theorem ch_lab (ks:List Int):((chLn ks).filter fun l=>rlab l).Nodup:=by
 unfold chLn
 rw [List.filter_append,List.filter_append,List.filter_flatMap,flat_nil _ ks (fun k _=>key_lab k)]
 decide +kernel
theorem key_no (k:Int):∀ l∈keyLn k,(10:UInt8) ∉ l:=fun l hl=>by
 unfold keyLn at hl
 have hc:∀ l∈kA++(kB++kC),(10:UInt8) ∉ l:=by decide +kernel
 rcases List.mem_append.1 hl with h1|h1
 ·exact hc l (by simp [h1])
 rcases List.mem_cons.1 h1 with rfl|h1
 ·exact setK_no k
 rcases List.mem_append.1 h1 with h1|h1
 ·exact hc l (by simp [h1])
 rcases List.mem_cons.1 h1 with rfl|h1
 ·exact setK_no k
 ·exact hc l (by simp [h1])
theorem ch_no (ks:List Int):∀ l∈chLn ks,(10:UInt8) ∉ l:=fun l hl=>by
 unfold chLn at hl
 have hc:∀ l∈chC++kH,(10:UInt8) ∉ l:=by decide +kernel
 rcases List.mem_append.1 hl with h1|h1
 ·exact hc l (by simp [h1])
 rcases List.mem_append.1 h1 with h1|h1
 ·obtain ⟨k,_,hy⟩:=List.mem_flatMap.1 h1
  exact key_no k l hy
 ·exact hc l (by simp [h1])
theorem key_len {k:Int} (h:bd k):(ltx (keyLn k)).length≤90:=by
 have:=setK_len h
 unfold keyLn
 rw [ltx_app,ltx_cons,ltx_app,ltx_cons]
 simp only [List.length_append,List.length_cons,List.length_nil]
 rw [show (ltx kA).length=9 by decide,show (ltx kB).length=26 by decide,show (ltx kC).length=17 by decide]
 omega
theorem flatL {α:Type} (f:α→List Bs) (n:Nat):∀ (l:List α),(∀ x∈l,(ltx (f x)).length≤n)→(ltx (l.flatMap f)).length≤n*l.length
 | [],_=>by simp [ltx]
 | x::xs,h=>by
  have:=flatL f n xs fun y hy=>h y (List.mem_cons_of_mem _ hy)
  have h1:=h x (List.mem_cons_self ..)
  rw [List.flatMap_cons,ltx_app,List.length_append,List.length_cons,Nat.mul_add]
  omega
theorem ch_len (ks:List Int) (h:∀ k∈ks,bd k) (hl:ks.length≤20):(ltx (chLn ks)).length≤3000:=by
 unfold chLn
 rw [ltx_app,ltx_app,List.length_append,List.length_append]
 have:=flatL keyLn 90 ks fun k hk=>key_len (h k hk)
 rw [show (ltx kH).length=5 by decide]
 have:(ltx chC).length≤1000:=by decide +kernel
 omega
theorem key_code (k:Int):((keyIt k).filterMap (·.2)).length≤8:=by
 refine Nat.le_trans (List.length_filterMap_le _ _) ?_
 have:(keyIt k).length=(keyLn k).length:=by rw [←keyIt_ln,List.length_map]
 rw [this]
 unfold keyLn
 simp [kA,kB,kC]
theorem flatC {α β γ:Type} (f:α→List β) (g:β→Option γ) (n:Nat):∀ (l:List α),(∀ x∈l,((f x).filterMap g).length≤n)→((l.flatMap f).filterMap g).length≤n*l.length
 | [],_=>by simp
 | x::xs,h=>by
  have:=flatC f g n xs fun y hy=>h y (List.mem_cons_of_mem _ hy)
  have h1:=h x (List.mem_cons_self ..)
  rw [List.flatMap_cons,List.filterMap_append,List.length_append,List.length_cons,Nat.mul_add]
  omega
theorem ch_code (ks:List Int) (hl:ks.length≤20):((chIt ks).filterMap (·.2)).length≤1000:=by
 unfold chIt
 rw [List.filterMap_append,List.filterMap_append,List.length_append,List.length_append]
 have:=flatC keyIt (·.2) 8 ks fun k hk=>key_code k
 have h2:((blk chTg chC).filterMap (·.2)).length≤30:=Nat.le_trans (List.length_filterMap_le _ _) (by unfold blk;rw [List.length_map];decide)
 have h3:((blk chTg kH).filterMap (·.2)).length≤1:=Nat.le_trans (List.length_filterMap_le _ _) (by unfold blk;rw [List.length_map];decide)
 omega
theorem ch_parse (ks:List Int) (h:∀ k∈ks,bd k) (hl:ks.length≤20):rparse (ltx (chLn ks))=(chCode ks,0,0):=by
 have hlen:=ch_len ks h hl
 have:=of_lines (chIt ks) (by rw [chIt_ln];exact chIt_ok ks h) (by rw [chIt_ln];exact ch_lab ks) (by rw [chIt_ln];exact ch_no ks) (by rw [chIt_ln];omega) (ch_code ks hl)
 rw [chIt_ln] at this
 exact this
theorem ch_where (ks:List Int) (h:∀ k∈ks,bd k) (hl:ks.length≤20):whereP (ltx (chLn ks)) [116,48]=(16,0):=by
 refine where_ltx (ch_no ks) (by rw [ch_parse ks h hl]) (tgt_pre _ ?_)
 decide +kernel
end Go.AL
end
section
set_option maxRecDepth 100000
namespace Go.AL
open Go Go.Proofs
def spC:List Bs:=[[108,111,99,107,58],[115,101,116,32,114,49,32,48],[115,101,116,32,114,50,32,49],[99,97,115,32,114,49,32,114,48,32,114,50],[122,101,114,111,32,114,49,32,108,111,99,107,101,100],[119,97,105,116,32,114,49,32,114,48],[106,117,109,112,32,108,111,99,107],[108,111,99,107,101,100,58],[114,101,116],[117,110,108,111,99,107,58],[115,101,116,32,114,49,32,48],[120,99,104,103,32,114,49,32,114,48],[114,101,116]]
def spTg:List (Bs × Int):=[([108,111,99,107],0),([108,111,99,107,101,100],6),([117,110,108,111,99,107],7)]
def turnC:List Bs:=[[115,101,116,32,114,48,32,49],[99,97,108,108,32,108,111,99,107],[109,97,114,107,32,50],[115,101,116,32,114,52,32,50],[108,111,97,100,32,114,53,32,114,52,32,48],[112,108,117,115,32,114,53,32,114,53,32,49],[115,116,111,114,101,32,114,53,32,114,52,32,48],[109,97,114,107,32,51],[115,101,116,32,114,48,32,49],[99,97,108,108,32,117,110,108,111,99,107]]
def tname (i:Nat):Bs:=116::Lib.itoa i
def tlab (i:Nat):Bs:=tname i++[58]
def thrLn (i:Nat) (n:Int):List Bs:=tlab i::((List.replicate n.toNat turnC).flatten++kH)
def thrIt (i:Nat) (n:Int):List (Bs × Option Ins):=(tlab i,none)::((List.replicate n.toNat (blk spTg turnC)).flatten++blk spTg kH)
def spThr (ts:List Int) (k:Nat):List Bs:=(ts.zipIdx k).flatMap fun p=>thrLn p.2 p.1
def spIt (ts:List Int):List (Bs × Option Ins):=blk spTg spC++ts.zipIdx.flatMap fun p=>thrIt p.2 p.1
def spCode (ts:List Int):List Ins:=(spIt ts).filterMap (·.2)
def spAt (ts:List Int) (i:Nat):Nat:=((spC++spThr (ts.take i) 0).filter fun l=>!rlab l).length
end Go.AL
end
