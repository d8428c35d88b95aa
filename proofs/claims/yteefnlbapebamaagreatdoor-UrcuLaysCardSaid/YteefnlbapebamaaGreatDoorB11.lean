/-
  Part 11 of the proof texts: the program logic over the model, then the contracts of the functions that the laws reach. No conditions.
-/
import Derived.Test.YteefnlbapebamaaGreatDoorB10
import Derived.Test.YteefnlbapebamaaGreatDoorRows
import Derived.JoinedOf
import Derived.JoinedAt
import Derived.RowKit3
import Derived.LaidMore
import Derived.Lib.LaidTab
import Derived.Stop.LaidErr
import Derived.Lay
import Derived.LaidSub
import Derived.LaidHandle
import Derived.ChangeArms
import Derived.RowKit
set_option linter.unusedVariables false
set_option linter.unusedSimpArgs false
set_option maxHeartbeats 2000000
section
set_option maxRecDepth 100000
namespace Go.AL
open Go Go.Proofs
attribute [local irreducible] J
instance:Inhabited (List Dd):=⟨[]⟩
def urU (b:Bool) (ps:List (List Dd)) (k:Nat):Bs:=ltx (urPre b)++ltx (urThr ps.length (ps.take k) 0)
def urD (n:Nat) (C:Bs) (l:List Dd) (j:Nat):Bs:=C++ltx ((l.take j).flatMap fun d=>ddLn d (4+n+d.at_))
theorem urU_0 (b:Bool) (ps:List (List Dd)):urU b ps 0=spT++ltx (urC b):=by
 unfold urU urPre urThr
 rw [←spT_eq,ltx_app]
 simp [ltx]
theorem urU_all (b:Bool) (ps:List (List Dd)):urU b ps ps.length=urS b ps:=by
 unfold urU urS urLn
 rw [ltx_app,List.take_length]
theorem urU_succ (b:Bool) (ps:List (List Dd)) {k:Nat} (h:k < ps.length):urU b ps (k+1)=urD ps.length (urU b ps k++ltx [tlab k]) (at' ps (k:Int)) (at' ps (k:Int)).length++ltx kH:=by
 unfold urU urD urThr
 rw [List.take_succ_eq_append_getElem h,List.zipIdx_append,List.flatMap_append,at_nat ps k h,List.length_take,Nat.min_eq_left (Nat.le_of_lt h),List.take_length]
 simp only [List.zipIdx_cons,List.zipIdx_nil,List.flatMap_cons,List.flatMap_nil,List.append_nil,Nat.zero_add]
 unfold pthLn
 rw [ltx_app,show tlab k::((ps[k].flatMap fun d=>ddLn d (4+ps.length+d.at_))++kH)=[tlab k]++((ps[k].flatMap fun d=>ddLn d (4+ps.length+d.at_))++kH) from rfl,ltx_app,ltx_app]
 simp only [List.append_assoc]
theorem urD_0 (n:Nat) (C:Bs) (l:List Dd):urD n C l 0=C:=by unfold urD;simp [ltx]
theorem urD_succ (n:Nat) (C:Bs) (l:List Dd) {j:Nat} (h:j < l.length):urD n C l (j+1)=urD n C l j++ltx (ddLn (at' l (j:Int)) (4+n+(at' l (j:Int)).at_)):=by
 unfold urD
 rw [List.take_succ_eq_append_getElem h,List.flatMap_append,ltx_app,at_nat l j h]
 simp only [List.flatMap_cons,List.flatMap_nil,List.append_nil,List.append_assoc]
theorem urD_len {n:Nat} (C:Bs) {l:List Dd} (h:∀ d∈l,DdB n d) (j:Nat):(urD n C l j).length≤C.length+60*l.length:=by
 unfold urD
 have:=flatL (fun d:Dd=>ddLn d (4+n+d.at_)) 60 (l.take j) fun d hd=>ddl_len (h d (List.mem_of_mem_take hd))
 rw [List.length_append]
 have h2:(l.take j).length≤l.length:=by rw [List.length_take];omega
 have:=Nat.mul_le_mul_left 60 h2
 omega
theorem urU_len (b:Bool) {ps:List (List Dd)} (h8:ps.length≤8) (hr:∀ l∈ps,l.length≤8) {k:Nat} (hk:k≤ps.length) (hp:∀ l∈ps.take k,planB l=true):(urU b ps k).length≤8000:=by
 unfold urU
 rw [List.length_append]
 have h1:(ltx (urPre b)).length≤1500:=by cases b<;>decide +kernel
 have:=flatL (fun p:List Dd × Nat=>pthLn ps.length p.2 p.1) 600 ((ps.take k).zipIdx 0) fun p hp'=>pth_len (by have:=zipP_lt hp';rw [List.length_take] at this;omega) (plan_dd (hp _ (List.fst_mem_of_mem_zipIdx hp')) h8) (hr _ (List.mem_of_mem_take (List.fst_mem_of_mem_zipIdx hp')))
 rw [List.length_zipIdx,List.length_take] at this
 unfold urThr
 omega
def urPg (f:Int) (ps:List (List Dd)):Bs × Int:=cond (decide (plWhy f ps=0)) (urS (fb f) ps,0) ([],plWhy f ps)
theorem urPg_no {f:Int} {ps:List (List Dd)} {n:Int} (h:plWhy f ps=n) (hn:n≠0):urPg f ps=([],n):=by
 unfold urPg
 rw [h,decide_eq_false hn];rfl
theorem uplan_ok (l:List Dd) (hl:l.length≤1000000):ACalls Tryz.prog 65 [encPl l] [] (one (bv (planB l)) []):=by
 have hmay:=fun d=>umay_ok d
 unfold encPl
 refine jC Tryz.func65 Tryz.ntmps65 (fun w0 β0 ext hβ=>?_)
 repeat (first|refine jS ?_|refine jD ?_|refine jB ?_)
 refine jloop 0 (fun k:Nat=>k≤l.length∧∀ q,q < k→okD (dpt (l.take q)) (at' l (q:Int))=true) [3,6,7,8] (fun k=>[.v (.int .i64 (dpt (l.take k))),.sl (l.map encDd),.v (.int .i64 ((l.map encDd).length:Int)),.v (.int .i64 (k:Int))])
  (fun k=>[]) (fun k=>l.length-k) 0 (jbl hβ) ⟨Nat.zero_le _,fun q h=>absurd h (by omega)⟩ rfl rfl (fun k hk=>?_)
 obtain ⟨hk,hok⟩:=hk
 obtain ⟨n0,n3⟩:=dpt_bd k hk hok
 repeat (first|refine jS ?_|refine jD ?_|refine jB ?_)
 refine jc rfl rfl rfl (fun h=>?_) (fun h=>?_)
 ·have h:=of_decide_eq_true h
  rw [List.length_map] at h
  have hk2:k < l.length:=by omega
  have hidx:IntKind.i64.wrap ((k:Int)+1)=((k+1:Nat):Int):=idx_next hk2 (by omega)
  have hno:=@goB_no l k hk2
  have hsu:=@dpt_succ l k hk2
  have hnx:okD (dpt (l.take k)) (at' l (k:Int))=true→∀ q,q < k+1→okD (dpt (l.take q)) (at' l (q:Int))=true:=fun h0 q hq=>by
   by_cases e:q=k
   ·subst e;exact h0
   ·exact hok q (by omega)
  repeat (first|refine jS ?_|refine jD ?_|refine jB ?_|refine jI (Int.natCast_nonneg k) h ?_)
  generalize at' l (k:Int)=d at *
  generalize hn:dpt (l.take k)=n at *
  have hmay:=hmay d
  have u1:=uin_ok (n+1) 0 3
  have u2:=uin_ok (n-1) 0 3
  have u3:=uin_ok n 0 3
  have v3:inn n 0 3=true:=inn_iff.2 ⟨n0,n3⟩
  have w1:IntKind.i64.wrap (n+1)=n+1:=wrap_id (by omega) (by omega)
  have w2:IntKind.i64.wrap (n-1)=n-1:=wrap_id (by omega) (by omega)
  rw [v3] at u3
  unfold encDd at hmay
  cases hm:mayD d with
  | false =>
   rw [hm] at hmay
   rw [hno (by unfold okD;rw [hm];rfl)]
   repeat (first|refine jS ?_|refine jD ?_|refine jB ?_|refine jV hmay ?_)
   exact jR
  | true =>
   rw [hm] at hmay
   by_cases k0:d.kind=0
   ·have q0:(d.kind == 0)=true:=by rw [k0];rfl
    have e:dn1 n d=n+1:=by unfold dn1;rw [decide_eq_true k0];rfl
    repeat (first|refine jS ?_|refine jD ?_|refine jB ?_|refine jV hmay ?_)
    rw [q0]
    repeat (first|refine jS ?_|refine jD ?_|refine jB ?_)
    rw [w1]
    cases hi:inn (n+1) 0 3 with
    | false =>
     rw [hi] at u1
     rw [hno (by unfold okD;rw [e,hi,Bool.and_false,Bool.and_false])]
     repeat (first|refine jS ?_|refine jD ?_|refine jB ?_|refine jV u1 ?_)
     exact jR
    | true =>
     rw [hi] at u1
     have hg:okD n d=true:=okD_iff.2 ⟨hm,fun ⟨a,_⟩=>by omega,by rw [e];exact inn_iff.1 hi⟩
     repeat (first|refine jS ?_|refine jD ?_|refine jB ?_|refine jV u1 ?_)
     refine jnext (k+1) ⟨hk2,hnx hg⟩ (by omega) rfl rfl rfl ?_ rfl
     rw [hidx,hsu,e]<;>rfl
   by_cases k1:d.kind=1
   ·have q0:(d.kind == 0)=false:=beq_eq_false_iff_ne.2 k0
    have q1:(d.kind == 1)=true:=by rw [k1];rfl
    have e:dn1 n d=n-1:=by unfold dn1;rw [decide_eq_false k0,decide_eq_true k1];rfl
    repeat (first|refine jS ?_|refine jD ?_|refine jB ?_|refine jV hmay ?_)
    rw [q0]
    repeat (first|refine jS ?_|refine jD ?_|refine jB ?_)
    rw [q1]
    repeat (first|refine jS ?_|refine jD ?_|refine jB ?_)
    rw [w2]
    cases hi:inn (n-1) 0 3 with
    | false =>
     rw [hi] at u2
     rw [hno (by unfold okD;rw [e,hi,Bool.and_false,Bool.and_false])]
     repeat (first|refine jS ?_|refine jD ?_|refine jB ?_|refine jV u2 ?_)
     exact jR
    | true =>
     rw [hi] at u2
     have hg:okD n d=true:=okD_iff.2 ⟨hm,fun ⟨a,_⟩=>by omega,by rw [e];exact inn_iff.1 hi⟩
     repeat (first|refine jS ?_|refine jD ?_|refine jB ?_|refine jV u2 ?_)
     refine jnext (k+1) ⟨hk2,hnx hg⟩ (by omega) rfl rfl rfl ?_ rfl
     rw [hidx,hsu,e]<;>rfl
   have q0:(d.kind == 0)=false:=beq_eq_false_iff_ne.2 k0
   have q1:(d.kind == 1)=false:=beq_eq_false_iff_ne.2 k1
   have e:dn1 n d=n:=by unfold dn1;rw [decide_eq_false k0,decide_eq_false k1];rfl
   by_cases k2:d.kind=2
   ·have q2:(d.kind == 2)=true:=by rw [k2];rfl
    by_cases hn2:n > 0
    ·rw [hno (by unfold okD;rw [decide_eq_true k2,decide_eq_true hn2];simp)]
     repeat (first|refine jS ?_|refine jD ?_|refine jB ?_|refine jV hmay ?_)
     rw [q0]
     repeat (first|refine jS ?_|refine jD ?_|refine jB ?_)
     rw [q1]
     repeat (first|refine jS ?_|refine jD ?_|refine jB ?_)
     rw [q2]
     repeat (first|refine jS ?_|refine jD ?_|refine jB ?_)
     rw [show decide (n > 0)=true from decide_eq_true hn2]
     repeat (first|refine jS ?_|refine jD ?_|refine jB ?_)
     exact jR
    ·have hg:okD n d=true:=okD_iff.2 ⟨hm,fun ⟨_,a⟩=>hn2 a,by rw [e];exact ⟨n0,n3⟩⟩
     repeat (first|refine jS ?_|refine jD ?_|refine jB ?_|refine jV hmay ?_)
     rw [q0]
     repeat (first|refine jS ?_|refine jD ?_|refine jB ?_)
     rw [q1]
     repeat (first|refine jS ?_|refine jD ?_|refine jB ?_)
     rw [q2]
     repeat (first|refine jS ?_|refine jD ?_|refine jB ?_)
     rw [show decide (n > 0)=false from decide_eq_false hn2]
     repeat (first|refine jS ?_|refine jD ?_|refine jB ?_|refine jV u3 ?_)
     refine jnext (k+1) ⟨hk2,hnx hg⟩ (by omega) rfl rfl rfl ?_ rfl
     rw [hidx,hsu,e]<;>rfl
   ·have q2:(d.kind == 2)=false:=beq_eq_false_iff_ne.2 k2
    have hg:okD n d=true:=okD_iff.2 ⟨hm,fun ⟨a,_⟩=>k2 a,by rw [e];exact ⟨n0,n3⟩⟩
    repeat (first|refine jS ?_|refine jD ?_|refine jB ?_|refine jV hmay ?_)
    rw [q0]
    repeat (first|refine jS ?_|refine jD ?_|refine jB ?_)
    rw [q1]
    repeat (first|refine jS ?_|refine jD ?_|refine jB ?_)
    rw [q2]
    repeat (first|refine jS ?_|refine jD ?_|refine jB ?_|refine jV u3 ?_)
    refine jnext (k+1) ⟨hk2,hnx hg⟩ (by omega) rfl rfl rfl ?_ rfl
    rw [hidx,hsu,e]<;>rfl
 ·have h:=of_decide_eq_false h
  rw [List.length_map] at h
  have:k=l.length:=by omega
  subst this
  rw [List.take_length]
  rw [planB_end hok]
  have e:(dpt l == 0)=decide (dpt l=0):=by by_cases h:dpt l=0<;>simp [h]
  repeat (first|refine jS ?_|refine jD ?_|refine jB ?_)
  rw [e]
  exact jR
end Go.AL
end
section
set_option maxRecDepth 100000
namespace Go.AL
open Go Go.Proofs
attribute [local irreducible] J
theorem urU_ne (b:Bool) (ps:List (List Dd)) (k:Nat):urU b ps k≠[]:=by
 unfold urU
 intro h
 exact (show ltx (urPre b)≠[] by cases b<;>decide +kernel) (List.append_eq_nil_iff.1 h).1
set_option maxHeartbeats 8000000 in
theorem uprog_mid (g:Gl) (f:Int) (ps:List (List Dd)) (h1:1≤ps.length) (h8:ps.length≤8) (hr:∀ l∈ps,l.length≤1000000):ACalls Tryz.prog 30 [iv f,.sl (ps.map encPl)] (gls g) (one (.tup [sv (urPg f ps).1,iv (urPg f ps).2]) (gls g)):=by
 have hin:=uin_ok (((ps.map encPl).length:Nat):Int) 1 8
 rw [show inn (((ps.map encPl).length:Nat):Int) 1 8=true from inn_iff.2 ⟨by rw [List.length_map];omega,by rw [List.length_map];omega⟩] at hin
 have htx:=utext_ok f
 have hst:=sptext_ok
 have hpl:=fun l h=>uplan_ok l h
 have hit:=fun k=>itoa_ok g (k:Int)
 have hdd:=fun l d n=>udeed_ok g l d n
 have hkH:∀ l:Bs,l.length≤90000→ACalls Tryz.prog 66 [.ptr 0 0,.slf (kH.map sv)] (bldB true l) (one (.tup []) (bldB true (l++ltx kH))):=fun l hl=>lines_Bf true l kH (by decide) (by decide) (Nat.le_trans (Nat.add_le_add hl (show (ltx kH).length≤10 by decide)) (by decide))
 have hlb:∀ (l:Bs) (k:Nat),l.length≤90000→k≤100→ACalls Tryz.prog 66 [.ptr 0 0,.slf [sv (tlab k)]] (bldB true l) (one (.tup []) (bldB true (l++ltx [tlab k]))):=fun l k hl hk=>lines_Bf true l [tlab k] (by simp) (by intro s hs;rw [List.mem_singleton.1 hs];unfold tlab;simp) (by
  have:=tname_len (n:=k) (by omega)
  have:(ltx [tlab k]).length≤20:=by unfold tlab;simp [ltx];omega
  omega)
 unfold gls at *
 refine jC Tryz.func30 Tryz.ntmps30 (fun w0 β0 ext hβ=>?_)
 repeat (first|refine jS ?_|refine jD ?_|refine jB ?_|refine jV hin ?_)
 refine jloopI (fun k:Nat=>k≤ps.length∧∀ q,q < k→(at' ps (q:Int)).length≤8) [0,1,19,20,21] (fun k=>[iv f,.sl (ps.map encPl),.sl (ps.map encPl),.v (.int .i64 ((ps.map encPl).length:Int)),.v (.int .i64 (k:Int))])
  (fun k=>[g.a,g.b,g.c,g.d]) (fun k=>ps.length-k) 0 ⟨Nat.zero_le _,fun q h=>absurd h (by omega)⟩ rfl rfl (fun k hk=>?_)
 obtain ⟨hk,hok⟩:=hk
 repeat (first|refine jS ?_|refine jD ?_|refine jB ?_)
 refine jc rfl rfl rfl (fun h=>?_) (fun h=>?_)
 ·have h:=of_decide_eq_true h
  rw [List.length_map] at h
  have hk2:k < ps.length:=by omega
  have hidx:IntKind.i64.wrap ((k:Int)+1)=((k+1:Nat):Int):=idx_next hk2 (by omega)
  have hm:=at_mem hk2
  repeat (first|refine jS ?_|refine jD ?_|refine jB ?_|refine jI (enc:=encPl) (l:=ps) (Int.natCast_nonneg k) h ?_)
  generalize hL:at' ps (k:Int)=L at *
  unfold encPl
  by_cases c8:L.length≤8
  ·rw [show decide ((((L.map encDd).length:Nat):Int) > 8)=false from decide_eq_false (by rw [List.length_map];omega)]
   repeat (first|refine jS ?_|refine jD ?_|refine jB ?_)
   refine jnextI (k+1) ⟨hk2,fun q hq=>?_⟩ ?_ rfl (by omega)
   ·by_cases e:q=k
    ·subst e;rw [hL];exact c8
    ·exact hok q (by omega)
   ·rw [hidx]<;>rfl
  ·rw [show decide ((((L.map encDd).length:Nat):Int) > 8)=true from decide_eq_true (by rw [List.length_map];omega)]
   rw [urPg_no (why_len hm c8) (by decide)]
   repeat (first|refine jS ?_|refine jD ?_|refine jB ?_)
   exact jR
 have h:=of_decide_eq_false h
 rw [List.length_map] at h
 have:k=ps.length:=by omega
 subst this
 have hr8:∀ l∈ps,l.length≤8:=fun l hl=>by
  obtain ⟨q,hq,rfl⟩:=List.getElem_of_mem hl
  have:=hok q hq
  rw [at_nat ps q hq] at this
  exact this
 clear hok h hk
 have hsz:=why_sized (f:=f) h1 h8 hr8
 cases hf:inn f 0 1 with
 | false =>
  rw [hf] at hsz
  have e:urTx f=([],1):=by unfold urTx;rw [hf];rfl
  rw [urPg_no (f:=f) (ps:=ps) (n:=1) hsz (by decide)]
  rw [e] at htx
  repeat (first|refine jS ?_|refine jD ?_|refine jB ?_|refine jV htx ?_)
  exact jR
 | true =>
  rw [hf] at hsz
  have e:urTx f=(ltx (urC (fb f)),0):=by unfold urTx;rw [hf];rfl
  rw [e] at htx
  have hC:(ltx (urC (fb f))).length≤2000:=by cases fb f<;>decide +kernel
  have hlen:=fun k (hk:k≤ps.length) hp=>urU_len (fb f) h8 hr8 hk hp
  have hsu:=fun k (hk:k < ps.length)=>urU_succ (fb f) ps hk
  have hDs:=fun C l j (hj:j < l.length)=>urD_succ ps.length C l hj
  have hDl:=fun C l (h:∀ d∈l,DdB ps.length d) j=>urD_len C h j
  have h0:=urU_0 (fb f) ps
  have hall:=urU_all (fb f) ps
  have hne:=urU_ne (fb f) ps ps.length
  have hw0:=wstr_okB false [] (spT++ltx (urC (fb f))) (by simp [spT]) (Nat.le_trans (Nat.add_le_add (Nat.le_refl 0) (Nat.le_trans (Nat.le_of_eq (List.length_append ..)) (Nat.add_le_add (show spT.length≤1000 by decide) hC))) (by decide))
  rw [List.nil_append,←h0] at hw0
  have hgood:planB=planB:=rfl
  generalize hB:fb f=b at *
  unfold bldB bldHB adr at *
  repeat (first|refine jadB 4 1 5 1 rfl rfl rfl rfl ?_|refine jS ?_|refine jB ?_|refine jV htx ?_)
  repeat (first|refine jS ?_|refine jB ?_)
  refine jdrawPT [(0,.p),(1,.p),(2,.p),(3,.p),(4,.p),(5,.p),(6,.m)] rfl (by kernel_rfl) ?_
  repeat (first|refine jS ?_|refine jD ?_|refine jB ?_|refine jV hst ?_)
  refine jo rfl rfl (cat_str (a:=spT) (b:=ltx (urC b)) rfl rfl (Nat.le_trans (Nat.add_le_add (show spT.length≤1000 by decide) hC) (by decide))) rfl rfl ?_
  rw [←h0]
  refine jBb [4,5] hw0 ?_
  clear hw0 h0 htx hst
  repeat (first|refine jS ?_|refine jD ?_|refine jB ?_)
  refine jloop 6 (fun k:Nat=>k≤ps.length∧∀ l∈ps.take k,planB l=true) [1,10,46,47,48] (fun k=>[.sl (ps.map encPl),.ptr 4 0,.sl (ps.map encPl),.v (.int .i64 ((ps.map encPl).length:Int)),.v (.int .i64 (k:Int))])
   (fun k=>[g.a,g.b,g.c,g.d,.box 127 [.ptr 4 0,.arr 5 ((urU b ps k).length+1)],.arr ((urU b ps k).length+1) 5 1 ((urU b ps k).map encB)]) (fun k=>ps.length-k) 0 (jbl hβ) ⟨Nat.zero_le _,fun l hl=>by cases hl⟩ rfl rfl (fun k hk=>?_)
  obtain ⟨hk,hok⟩:=hk
  repeat (first|refine jS ?_|refine jD ?_|refine jB ?_)
  refine jc rfl rfl rfl (fun h=>?_) (fun h=>?_)
  ·have h:=of_decide_eq_true h
   rw [List.length_map] at h
   have hk2:k < ps.length:=by omega
   have hidx:IntKind.i64.wrap ((k:Int)+1)=((k+1:Nat):Int):=idx_next hk2 (by omega)
   have hm:=at_mem hk2
   have hL8:=hr8 _ hm
   have hpl:=hpl (at' ps (k:Int)) (by omega)
   have hUl:=hlen k hk hok
   have hsu:=hsu k hk2
   have hnx:planB (at' ps (k:Int))=true→∀ l∈ps.take (k+1),planB l=true:=fun h0 l hl=>by
    rw [List.take_succ_eq_append_getElem hk2] at hl
    rcases List.mem_append.1 hl with hl|hl
    ·exact hok l hl
    ·rw [List.mem_singleton.1 hl,←at_nat ps k hk2];exact h0
   repeat (first|refine jS ?_|refine jD ?_|refine jB ?_|refine jI (enc:=encPl) (l:=ps) (Int.natCast_nonneg k) h ?_)
   generalize at' ps (k:Int)=L at *
   generalize urU b ps k=U at *
   unfold encPl at hpl ⊢
   cases hp:planB L with
   | false =>
    rw [hp] at hpl
    have:(ps.all planB)=false:=List.all_eq_false.2 ⟨L,hm,by rw [hp];decide⟩
    rw [this] at hsz
    rw [urPg_no (f:=f) (ps:=ps) (n:=1) hsz (by decide)]
    repeat (first|refine jS ?_|refine jD ?_|refine jB ?_|refine jV hpl ?_)
    exact jR
   | true =>
    rw [hp] at hpl
    have hit:=hit k (by omega) (by omega)
    have htl:=tname_len (n:=k) (by omega)
    have hlb:=hlb U k (by omega) (by omega)
    have hCl:(U++ltx [tlab k]).length≤9000:=by
     have:(ltx [tlab k]).length≤20:=by unfold tlab;simp [ltx];omega
     rw [List.length_append];omega
    have hDd:=plan_dd hp h8
    have hgo:∀ d∈L,0≤d.at_∧d.at_≤7:=fun d hd=>by
     obtain ⟨q,hq,rfl⟩:=List.getElem_of_mem hd
     unfold planB at hp
     rw [Bool.and_eq_true] at hp
     have:=mayD_iff.1 (okD_iff.1 (goB_iff.1 hp.1 q hq)).1
     rw [at_nat L q hq] at this
     exact this.2.1
    have hDl:=hDl (U++ltx [tlab k]) L hDd
    have hDs:=hDs (U++ltx [tlab k]) L
    have hD0:=urD_0 ps.length (U++ltx [tlab k]) L
    repeat (first|refine jS ?_|refine jD ?_|refine jB ?_|refine jV hpl ?_)
    refine jBb [0,1,2,3] hit ?_
    refine jo rfl rfl (cat_str (a:=[116]) (b:=Lib.itoa k) rfl rfl (by unfold tname at htl;simp at htl ⊢;omega)) rfl rfl ?_
    repeat (first|refine jS ?_|refine jD ?_|refine jB ?_)
    refine jo rfl rfl (cat_str (a:=[116]++Lib.itoa k) (b:=[58]) rfl rfl (by unfold tname at htl;simp at htl ⊢;omega)) rfl rfl ?_
    rw [show ([116]++Lib.itoa (k:Int))++[58]=tlab k from rfl]
    generalize tlab k=TL at *
    repeat (first|refine jS ?_|refine jD ?_|refine jB ?_)
    refine jBb [4,5] hlb ?_
    generalize U++ltx [TL]=C at *
    clear hlb hit
    repeat (first|refine jS ?_|refine jD ?_|refine jB ?_)
    refine jloop 6 (fun j:Nat=>j≤L.length) [1,10,46,47,48,63,64,65] (fun j=>[.sl (ps.map encPl),.ptr 4 0,.sl (ps.map encPl),.v (.int .i64 ((ps.map encPl).length:Int)),.v (.int .i64 (k:Int)),.sl (L.map encDd),.v (.int .i64 ((L.map encDd).length:Int)),.v (.int .i64 (j:Int))])
     (fun j=>[g.a,g.b,g.c,g.d,.box 127 [.ptr 4 0,.arr 5 ((urD ps.length C L j).length+1)],.arr ((urD ps.length C L j).length+1) 5 1 ((urD ps.length C L j).map encB)]) (fun j=>L.length-j) 0 (jbl hβ) (Nat.zero_le _) rfl (by rw [hD0];rfl) (fun j hj=>?_)
    repeat (first|refine jS ?_|refine jD ?_|refine jB ?_)
    refine jc rfl rfl rfl (fun h=>?_) (fun h=>?_)
    ·have h:=of_decide_eq_true h
     rw [List.length_map] at h
     have hj2:j < L.length:=by omega
     have hjx:IntKind.i64.wrap ((j:Int)+1)=((j+1:Nat):Int):=idx_next hj2 (by omega)
     have hdm:=at_mem hj2
     have hDl:=hDl j
     have hDs:=hDs j hj2
     have hdd:=hdd (urD ps.length C L j) (at' L (j:Int)) ps.length h8 (hDd _ hdm) (hgo _ hdm) (by omega)
     rw [←hDs] at hdd
     repeat (first|refine jS ?_|refine jD ?_|refine jB ?_|refine jI (enc:=encDd) (l:=L) (Int.natCast_nonneg j) h ?_)
     generalize at' L (j:Int)=d at *
     generalize urD ps.length C L j=D at *
     generalize hD2:urD ps.length C L (j+1)=D2 at *
     unfold bldG encDd at hdd
     have hdd:=hdd.argw (args':=[.ptr 4 0,.agg [iv d.kind,iv d.at_,iv d.value],.v (.int .i64 (((ps.map encPl).length:Nat):Int))]) (fun c us h=>by rw [List.length_map] at h;exact h)
     refine jBb [0,1,2,3,4,5] hdd ?_
     repeat (first|refine jS ?_|refine jD ?_|refine jB ?_)
     refine jnext (j+1) hj2 (by omega) rfl rfl rfl ?_ ?_
     ·rw [hjx]<;>rfl
     ·rw [hD2]<;>rfl
    ·have h:=of_decide_eq_false h
     rw [List.length_map] at h
     have:j=L.length:=by omega
     subst this
     have hDl:=hDl L.length
     have hkH:=hkH (urD ps.length C L L.length) (by omega)
     rw [←hsu] at hkH
     generalize urD ps.length C L L.length=D at *
     generalize hU2:urU b ps (k+1)=U2 at *
     unfold kH at hkH
     repeat (first|refine jS ?_|refine jD ?_|refine jB ?_)
     refine jBb [4,5] hkH ?_
     repeat (first|refine jS ?_|refine jD ?_|refine jB ?_)
     refine jnext (k+1) ⟨hk2,hnx hp⟩ (by omega) rfl rfl rfl ?_ ?_
     ·rw [hidx]<;>rfl
     ·rw [hU2]<;>rfl
  ·have h:=of_decide_eq_false h
   rw [List.length_map] at h
   have:k=ps.length:=by omega
   subst this
   have hUl:=hlen ps.length hk hok
   rw [List.take_length] at hok
   rw [List.all_eq_true.2 hok] at hsz
   have e0:urPg f ps=(urS b ps,0):=by
    unfold urPg
    rw [hsz,hB];rfl
   rw [e0]
   have hs:=str_okB true (urU b ps ps.length) hne (by omega)
   rw [hall] at hs ⊢
   generalize urS b ps=T at *
   unfold bldB bldHB adr at hs
   repeat (first|refine jS ?_|refine jD ?_|refine jB ?_)
   refine jBb [4,5] hs ?_
   repeat (first|refine jS ?_|refine jD ?_|refine jB ?_)
   exact jR
end Go.AL
end
section
set_option maxRecDepth 100000
namespace Go.AL
open Go Go.Proofs
attribute [local irreducible] J
theorem uprog_ok (g:Gl) (f:Int) (ps:List (List Dd)) (hl:ps.length≤1000000) (hr:∀ l∈ps,l.length≤1000000):ACalls Tryz.prog 30 [iv f,.sl (ps.map encPl)] (gls g) (one (.tup [sv (urPg f ps).1,iv (urPg f ps).2]) (gls g)):=by
 by_cases hz:1≤ps.length∧ps.length≤8
 ·exact uprog_mid g f ps hz.1 hz.2 hr
 ·have hin:=uin_ok (((ps.map encPl).length:Nat):Int) 1 8
  rw [show inn (((ps.map encPl).length:Nat):Int) 1 8=false from by
   cases e:inn (((ps.map encPl).length:Nat):Int) 1 8 with
   | false=>rfl
   | true=>have:=inn_iff.1 e;rw [List.length_map] at this;exact absurd (show _ from ⟨by omega,by omega⟩) hz] at hin
  rw [urPg_no (f:=f) (why_size hz) (by decide)]
  unfold gls
  refine jC Tryz.func30 Tryz.ntmps30 (fun w0 β0 ext hβ=>?_)
  repeat (first|refine jS ?_|refine jD ?_|refine jB ?_|refine jV hin ?_)
  exact jR
theorem urW_enc (n:Nat) : [iv 1,iv 0,iv (n:Int)]++List.replicate n (iv 0)=(urW n).map iv:=by unfold urW;simp [List.map_replicate]
set_option maxHeartbeats 4000000 in
theorem ulay_ok (m:Mem) (a many:Int) (hw:m.words.length≤1000000) (ht:m.tags.length≤1000000):ACalls Tryz.prog 25 [encMem m,iv a,iv many] [] (one (.tup [encMem (layU m a many).1,iv (layU m a many).2]) []):=by
 have h1:=mem_right m hw ht
 cases hR:mRight m with
 | false =>
  rw [layU_no (by rw [hR];rfl)]
  rw [hR] at h1
  unfold encMem mCells ivs at *
  refine jC Tryz.func25 Tryz.ntmps25 (fun w0 β0 ext hβ=>?_)
  repeat (first|refine jS ?_|refine jD ?_|refine jB ?_|refine jV h1 ?_)
  exact jR
 | true =>
  rw [hR] at h1
  by_cases c1:many < 1
  ·have e:inn many 1 8=false:=by
    cases e:inn many 1 8 with
    | false=>rfl
    | true=>have:=inn_iff.1 e;omega
   rw [layU_no (by rw [e,Bool.and_false])]
   unfold encMem mCells ivs at *
   refine jC Tryz.func25 Tryz.ntmps25 (fun w0 β0 ext hβ=>?_)
   repeat (first|refine jS ?_|refine jD ?_|refine jB ?_|refine jV h1 ?_)
   rw [show decide (many < 1)=true from decide_eq_true c1]
   repeat (first|refine jS ?_|refine jD ?_|refine jB ?_)
   exact jR
  by_cases c8:many > 8
  ·have e:inn many 1 8=false:=by
    cases e:inn many 1 8 with
    | false=>rfl
    | true=>have:=inn_iff.1 e;omega
   rw [layU_no (by rw [e,Bool.and_false])]
   unfold encMem mCells ivs at *
   refine jC Tryz.func25 Tryz.ntmps25 (fun w0 β0 ext hβ=>?_)
   repeat (first|refine jS ?_|refine jD ?_|refine jB ?_|refine jV h1 ?_)
   rw [show decide (many < 1)=false from decide_eq_false c1]
   repeat (first|refine jS ?_|refine jD ?_|refine jB ?_)
   rw [show decide (many > 8)=true from decide_eq_true c8]
   repeat (first|refine jS ?_|refine jD ?_|refine jB ?_)
   exact jR
  have hg:(mRight m&&inn many 1 8)=true:=by rw [hR,inn_iff.2 ⟨by omega,by omega⟩];rfl
  have w1:IntKind.i64.wrap (3+many)=3+many:=wrap_id (by omega) (by omega)
  have h2:=mark_ok m a (3+many) 1 hR (.inl rfl)
  by_cases hb:(mMark m a (3+many) 1).2=0
  ·rw [layU_good hg hb]
   obtain ⟨k0,k1,K⟩:=mMark_had hR hb
   obtain ⟨n,rfl⟩:∃ n:Nat,many=n:=⟨many.toNat,by omega⟩
   obtain ⟨k,rfl⟩:∃ k:Nat,a=k:=⟨a.toNat,by omega⟩
   rw [hb] at h2
   generalize (mMark m (k:Int) (3+(n:Int)) 1).1=x at *
   simp only [Int.toNat_natCast] at K ⊢
   rw [show (3+(n:Int)).toNat=3+n by omega] at K
   have hx160:x.words.length≤160:=((mRight_iff x).1 K.right).2.1
   have hstep:=fun q hq=>row_store (m:=x) (k:=k) (n:=3+n) (W:=urW n) (q:=q) K.fits K.inside (urW_len n) hq
   have hgood:=fun q=>had_right (m:=x) (k:=k) (n:=3+n) K.right K.fits K.inside ((urW n).take q) (by rw [List.length_take,urW_len];omega)
   have hst:=fun q v=>store_ok ⟨stL x.words k ((urW n).take q),x.tags⟩ ((k+q:Nat):Int) v (hgood q)
   have hend:(urW n).take (3+n)=urW n:=List.take_of_length_le (by rw [urW_len];omega)
   have hwl:=urW_len n
   have henc:=urW_enc n
   have hk160:k≤160:=by have:=K.fits;omega
   clear hgood K
   generalize urW n=W at *
   unfold encMem mCells ivs at *
   refine jC Tryz.func25 Tryz.ntmps25 (fun w0 β0 ext hβ=>?_)
   repeat (first|refine jS ?_|refine jD ?_|refine jB ?_|refine jV h1 ?_)
   rw [show decide ((n:Int) < 1)=false from decide_eq_false c1]
   repeat (first|refine jS ?_|refine jD ?_|refine jB ?_)
   rw [show decide ((n:Int) > 8)=false from decide_eq_false c8]
   repeat (first|refine jS ?_|refine jD ?_|refine jB ?_)
   rw [w1]
   repeat (first|refine jS ?_|refine jD ?_|refine jB ?_|refine jV h2 ?_)
   refine jo rfl rfl (append_z (L:=W.map iv) rfl rfl rfl rfl rfl rfl rfl rfl rfl rfl (by intro v hv;simp at hv;rcases hv with rfl|rfl|rfl<;>exact ⟨rfl,rfl⟩) (by omega) (by show (3+n)*8≤_;omega) henc rfl rfl) rfl rfl ?_
   refine jo rfl rfl (len_arr rfl rfl rfl rfl) rfl rfl ?_
   repeat (first|refine jpub 38 rfl rfl rfl rfl ?_|refine jS ?_|refine jD ?_|refine jB ?_)
   refine jfin 2 [1,3,6,38,39,40] true rfl rfl rfl (jbl hβ) ?_
   refine jloop 2 (fun q:Nat=>q≤3+n) [1,3,6,38,39,40] (fun q=>[.v (.int .i64 (k:Int)),.ptr 0 0,.ptr 1 0,.sl (W.map iv),.v (.int .i64 ((W.map iv).length:Int)),.v (.int .i64 (q:Int))])
    (fun q=>[.box 26 [.sl ((stL x.words k (W.take q)).map iv),.sl (x.tags.map iv)],.box 26 [.sl [],.sl []]]) (fun q=>3+n-q) 0 (jbl hβ) (Nat.zero_le _) rfl (by rw [List.take_zero];rfl) (fun q hq=>?_)
   repeat (first|refine jS ?_|refine jD ?_|refine jB ?_)
   refine jc rfl rfl rfl (fun h=>?_) (fun h=>?_)
   ·have h:=of_decide_eq_true h
    rw [List.length_map] at h
    have hq2:q < 3+n:=by omega
    have hidx:IntKind.i64.wrap ((q:Int)+1)=((q+1:Nat):Int):=idx_next (show q < W.length by omega) (by omega)
    have wk:IntKind.i64.wrap ((k:Int)+(q:Int))=((k+q:Nat):Int):=by rw [wrap_id (by omega) (by omega)];omega
    have hst:=hst q (at' W (q:Int))
    rw [hstep q hq2] at hst
    simp only at hst
    repeat (first|refine jS ?_|refine jD ?_|refine jB ?_|refine jI (Int.natCast_nonneg q) h ?_)
    rw [wk]
    repeat (first|refine jS ?_|refine jD ?_|refine jB ?_|refine jV hst ?_)
    refine jnext (q+1) hq2 (by omega) rfl rfl rfl ?_ rfl
    rw [hidx]<;>rfl
   ·have h:=of_decide_eq_false h
    rw [List.length_map] at h
    have:q=3+n:=by omega
    subst this
    rw [hend]
    repeat (first|refine jS ?_|refine jD ?_|refine jB ?_)
    exact jR
  ·rw [layU_bad hg hb]
   generalize mMark m a (3+many) 1=r at *
   have hne:(r.2 != 0)=true:=by rw [bne_iff_ne];exact hb
   unfold encMem mCells ivs at *
   refine jC Tryz.func25 Tryz.ntmps25 (fun w0 β0 ext hβ=>?_)
   repeat (first|refine jS ?_|refine jD ?_|refine jB ?_|refine jV h1 ?_)
   rw [show decide (many < 1)=false from decide_eq_false c1]
   repeat (first|refine jS ?_|refine jD ?_|refine jB ?_)
   rw [show decide (many > 8)=false from decide_eq_false c8]
   repeat (first|refine jS ?_|refine jD ?_|refine jB ?_)
   rw [w1]
   repeat (first|refine jS ?_|refine jD ?_|refine jB ?_|refine jV h2 ?_)
   rw [hne]
   repeat (first|refine jS ?_|refine jD ?_|refine jB ?_)
   exact jR
theorem mark_rng {m:Mem} {k n:Int} (h:k < 0∨k > m.words.length∨n > m.words.length-k) (hn:1≤n):mMark m k n 1=(mem0,3):=by
 unfold mMark
 have:(decide (1≤n)&&(inn k 0 (m.words.length-1)&&decide (n≤m.words.length-k)))=false:=by
  rw [Bool.eq_false_iff]
  intro e
  simp only [Bool.and_eq_true,decide_eq_true_eq,inn_iff] at e
  omega
 rw [this];rfl
set_option maxHeartbeats 4000000 in
theorem rulay_ok (m:Mem) (a many:Int) (hR:mRight m=true) (hm:inn many 1 8=true):ACalls Tryz.prog 27 [encMem m,iv a,iv many] [] (one (.tup [encMem (layU m a many).1,iv (layU m a many).2]) []):=by
 have hg:(mRight m&&inn many 1 8)=true:=by rw [hR,hm];rfl
 obtain ⟨m1,m8⟩:=inn_iff.1 hm
 obtain ⟨s1,s2,s3,s4⟩:=(mRight_iff m).1 hR
 have w1:IntKind.i64.wrap (3+many)=3+many:=wrap_id (by omega) (by omega)
 have h2:=rmark_ok m a (3+many) 1 hR (.inl rfl)
 have hL:(((m.words.map iv).length:Nat):Int)=(m.words.length:Int):=by rw [List.length_map]
 by_cases c1:a < 0
 ·have e:=mark_rng (m:=m) (k:=a) (n:=3+many) (.inl c1) (by omega)
  rw [layU_bad hg (by rw [e];decide),e]
  unfold encMem mCells ivs at *
  refine jC Tryz.func27 Tryz.ntmps27 (fun w0 β0 ext hβ=>?_)
  repeat (first|refine jS ?_|refine jD ?_|refine jB ?_)
  rw [show decide (a < 0)=true from decide_eq_true c1]
  repeat (first|refine jS ?_|refine jD ?_|refine jB ?_)
  exact jR
 by_cases c2:a > m.words.length
 ·have e:=mark_rng (m:=m) (k:=a) (n:=3+many) (.inr (.inl c2)) (by omega)
  rw [layU_bad hg (by rw [e];decide),e]
  unfold encMem mCells ivs at *
  refine jC Tryz.func27 Tryz.ntmps27 (fun w0 β0 ext hβ=>?_)
  repeat (first|refine jS ?_|refine jD ?_|refine jB ?_)
  rw [show decide (a < 0)=false from decide_eq_false c1]
  repeat (first|refine jS ?_|refine jD ?_|refine jB ?_)
  rw [hL,show decide (a > (m.words.length:Int))=true from decide_eq_true c2]
  repeat (first|refine jS ?_|refine jD ?_|refine jB ?_)
  exact jR
 have w2:IntKind.i64.wrap ((m.words.length:Int)-a)=(m.words.length:Int)-a:=wrap_id (by omega) (by omega)
 by_cases c3:3+many > (m.words.length:Int)-a
 ·have e:=mark_rng (m:=m) (k:=a) (n:=3+many) (.inr (.inr c3)) (by omega)
  rw [layU_bad hg (by rw [e];decide),e]
  unfold encMem mCells ivs at *
  refine jC Tryz.func27 Tryz.ntmps27 (fun w0 β0 ext hβ=>?_)
  repeat (first|refine jS ?_|refine jD ?_|refine jB ?_)
  rw [show decide (a < 0)=false from decide_eq_false c1]
  repeat (first|refine jS ?_|refine jD ?_|refine jB ?_)
  rw [hL,show decide (a > (m.words.length:Int))=false from decide_eq_false c2]
  repeat (first|refine jS ?_|refine jD ?_|refine jB ?_)
  rw [w1,hL,w2,show decide (3+many > (m.words.length:Int)-a)=true from decide_eq_true c3]
  repeat (first|refine jS ?_|refine jD ?_|refine jB ?_)
  exact jR
 by_cases hb:(mMark m a (3+many) 1).2=0
 ·rw [layU_good hg hb]
  obtain ⟨k0,k1,K⟩:=mMark_had hR hb
  obtain ⟨n,rfl⟩:∃ n:Nat,many=n:=⟨many.toNat,by omega⟩
  obtain ⟨k,rfl⟩:∃ k:Nat,a=k:=⟨a.toNat,by omega⟩
  rw [hb] at h2
  generalize (mMark m (k:Int) (3+(n:Int)) 1).1=x at *
  simp only [Int.toNat_natCast] at K ⊢
  rw [show (3+(n:Int)).toNat=3+n by omega] at K
  have hx160:x.words.length≤160:=((mRight_iff x).1 K.right).2.1
  have hstep:=fun q hq=>row_store (m:=x) (k:=k) (n:=3+n) (W:=urW n) (q:=q) K.fits K.inside (urW_len n) hq
  have hgood:=fun q=>had_right (m:=x) (k:=k) (n:=3+n) K.right K.fits K.inside ((urW n).take q) (by rw [List.length_take,urW_len];omega)
  have hst:=fun q v=>rstore_ok ⟨stL x.words k ((urW n).take q),x.tags⟩ ((k+q:Nat):Int) v (hgood q)
  have hend:(urW n).take (3+n)=urW n:=List.take_of_length_le (by rw [urW_len];omega)
  have hwl:=urW_len n
  have hk160:k≤160:=by have:=K.fits;omega
  have hat0:at' (urW n) 0=1:=rfl
  have hat2:at' (urW n) 2=n:=rfl
  have hatz:∀ q:Nat,q < 3+n→q≠0→q≠2→at' (urW n) (q:Int)=0:=fun q h h0 h2=>by
   rw [at_nat _ q (by rw [urW_len];exact h)]
   unfold urW
   rcases q with _|_|_|q
   ·exact absurd rfl h0
   ·rfl
   ·exact absurd rfl h2
   ·simp
  clear hgood K
  generalize urW n=W at *
  unfold encMem mCells ivs at *
  refine jC Tryz.func27 Tryz.ntmps27 (fun w0 β0 ext hβ=>?_)
  repeat (first|refine jS ?_|refine jD ?_|refine jB ?_)
  rw [show decide ((k:Int) < 0)=false from decide_eq_false c1]
  repeat (first|refine jS ?_|refine jD ?_|refine jB ?_)
  rw [hL,show decide ((k:Int) > (m.words.length:Int))=false from decide_eq_false c2]
  repeat (first|refine jS ?_|refine jD ?_|refine jB ?_)
  rw [w1,hL,w2,show decide (3+(n:Int) > (m.words.length:Int)-(k:Int))=false from decide_eq_false c3]
  repeat (first|refine jS ?_|refine jD ?_|refine jB ?_)
  rw [w1]
  repeat (first|refine jS ?_|refine jD ?_|refine jB ?_|refine jV h2 ?_)
  refine jfin 2 [1,2,3,6,9] true rfl rfl rfl (jbl hβ) ?_
  refine jloop 2 (fun q:Nat=>q≤3+n) [1,2,3,6,9] (fun q=>[.v (.int .i64 (k:Int)),.v (.int .i64 (n:Int)),.ptr 0 0,.ptr 1 0,.v (.int .i64 (q:Int))])
   (fun q=>[.box 26 [.sl ((stL x.words k (W.take q)).map iv),.sl (x.tags.map iv)],.box 26 [.sl [],.sl []]]) (fun q=>3+n-q) 0 (jbl hβ) (Nat.zero_le _) rfl (by rw [List.take_zero];rfl) (fun q hq=>?_)
  repeat (first|refine jS ?_|refine jD ?_|refine jB ?_)
  rw [w1]
  repeat (first|refine jS ?_|refine jD ?_|refine jB ?_)
  refine jc rfl rfl rfl (fun h=>?_) (fun h=>?_)
  ·have h:=of_decide_eq_true h
   have hq2:q < 3+n:=by omega
   have hidx:IntKind.i64.wrap ((q:Int)+1)=((q+1:Nat):Int):=by rw [wrap_id (by omega) (by omega)];omega
   have wk:IntKind.i64.wrap ((k:Int)+(q:Int))=((k+q:Nat):Int):=by rw [wrap_id (by omega) (by omega)];omega
   have hst:=hst q (at' W (q:Int))
   rw [hstep q hq2] at hst
   simp only at hst
   by_cases q0:q=0
   ·subst q0
    have hst:=hst
    rw [show at' W ((0:Nat):Int)=1 from hat0] at hst
    repeat (first|refine jS ?_|refine jD ?_|refine jB ?_)
    rw [wk]
    repeat (first|refine jS ?_|refine jD ?_|refine jB ?_|refine jV hst ?_)
    refine jnext (0+1) hq2 (by omega) rfl rfl rfl ?_ rfl
    rfl
   by_cases q2:q=2
   ·subst q2
    have hst:=hst
    rw [show at' W ((2:Nat):Int)=n from hat2] at hst
    repeat (first|refine jS ?_|refine jD ?_|refine jB ?_)
    rw [wk]
    repeat (first|refine jS ?_|refine jD ?_|refine jB ?_|refine jV hst ?_)
    refine jnext (2+1) hq2 (by omega) rfl rfl rfl ?_ rfl
    rfl
   rw [hatz q hq2 q0 q2] at hst
   repeat (first|refine jS ?_|refine jD ?_|refine jB ?_)
   rw [show ((q:Int) == 0)=false from beq_eq_false_iff_ne.2 (by omega)]
   repeat (first|refine jS ?_|refine jD ?_|refine jB ?_)
   rw [show ((q:Int) == 2)=false from beq_eq_false_iff_ne.2 (by omega)]
   repeat (first|refine jS ?_|refine jD ?_|refine jB ?_)
   rw [wk]
   repeat (first|refine jS ?_|refine jD ?_|refine jB ?_|refine jV hst ?_)
   rw [hidx]
   refine jnext (q+1) hq2 (by omega) rfl rfl rfl ?_ rfl
   rfl
  ·have h:=of_decide_eq_false h
   have:q=3+n:=by omega
   subst this
   rw [hend]
   repeat (first|refine jS ?_|refine jD ?_|refine jB ?_)
   exact jR
 ·rw [layU_bad hg hb]
  generalize mMark m a (3+many) 1=r at *
  have hne:(r.2 != 0)=true:=by rw [bne_iff_ne];exact hb
  unfold encMem mCells ivs at *
  refine jC Tryz.func27 Tryz.ntmps27 (fun w0 β0 ext hβ=>?_)
  repeat (first|refine jS ?_|refine jD ?_|refine jB ?_)
  rw [show decide (a < 0)=false from decide_eq_false c1]
  repeat (first|refine jS ?_|refine jD ?_|refine jB ?_)
  rw [hL,show decide (a > (m.words.length:Int))=false from decide_eq_false c2]
  repeat (first|refine jS ?_|refine jD ?_|refine jB ?_)
  rw [w1,hL,w2,show decide (3+many > (m.words.length:Int)-a)=false from decide_eq_false c3]
  repeat (first|refine jS ?_|refine jD ?_|refine jB ?_)
  rw [w1]
  repeat (first|refine jS ?_|refine jD ?_|refine jB ?_|refine jV h2 ?_)
  rw [hne]
  repeat (first|refine jS ?_|refine jD ?_|refine jB ?_)
  exact jR
end Go.AL
end
section
set_option maxRecDepth 100000
namespace Go.AL
open Go Go.Proofs
attribute [local irreducible] J
set_option maxHeartbeats 4000000 in
theorem uworld_ok (g:Gl) (f:Int) (ps:List (List Dd)) (d:Int) (hl:ps.length≤1000000) (hr:∀ l∈ps,l.length≤1000000):ACalls Tryz.prog 31 [iv f,.sl (ps.map encPl),iv d] (gls g) (one (.tup [encWd (urWd f d ps).1,iv (urWd f d ps).2]) (gls g)):=by
 have h1:=uprog_ok g f ps hl hr
 by_cases hW:plWhy f ps=0
 ·have hPl:=why_pl hW
  obtain ⟨⟨t1,t8⟩,_,_,_⟩:=plw_ok hW
  have e1:urPg f ps=(urS (fb f) ps,0):=by unfold urPg;rw [decide_eq_true hW];rfl
  have hpr:=ur_parse (fb f) hPl
  have hlen:=ur_len (fb f) hPl
  have hwh:=ur_there (fb f) hPl
  rw [show ltx (urLn (fb f) ps)=urS (fb f) ps from rfl] at hpr hlen
  have hp0:(rparse (urS (fb f) ps)).2.2=0:=by rw [hpr]
  obtain ⟨z1,z2⟩:=rst_eq hp0 (names ps.length)
  have e2:urWd f d ps=newW (parseP (urS (fb f) ps)).1 (stAt (urS (fb f) ps) (names ps.length)) (urM ps.length) d:=by unfold urWd;rw [decide_eq_true hW,parse_eq,hpr,z1];rfl
  rw [e1] at h1
  rw [e2]
  obtain ⟨y1,y2,y3,y4,y5⟩:=urM_facts ps.length (by omega) t1
  have h2:=mnew_ok (12+ps.length) (by omega) (by omega)
  have h3:=ulay_ok ⟨List.replicate (12+ps.length) 0,List.replicate (12+ps.length) 0⟩ 1 ps.length (by simp;omega) (by simp;omega)
  rw [y1] at h3
  have h5:=mark_ok (urM0 ps.length) ((4+ps.length:Nat):Int) 8 1 y4 (.inl rfl)
  rw [y2] at h5
  have h4:=snew_ok g (urS (fb f) ps) (names ps.length) (urM ps.length) d (by omega) (by rw [names_len];omega) (by obtain ⟨_,q2,q3,_⟩:=(mRight_iff _).1 y3;omega) (by rw [parse_eq];exact hp0) hwh (by rw [parse_eq,hpr];have:=parse_right hp0;unfold rightC at this;rw [hpr,Bool.and_eq_true] at this;have:=of_decide_eq_true this.1;simp only at this ⊢;omega)
  have hit:=fun (k:Int)=>itoa_ok g k
  have w1:IntKind.i64.wrap (4+(((ps.map encPl).length:Nat):Int))=((4+ps.length:Nat):Int):=by rw [List.length_map,wrap_id (by omega) (by omega)];omega
  have w2:IntKind.i64.wrap (((4+ps.length:Nat):Int)+8)=((12+ps.length:Nat):Int):=by rw [wrap_id (by omega) (by omega)];omega
  have hlm:(((ps.map encPl).length:Nat):Int)=(ps.length:Int):=by rw [List.length_map]
  rw [←hlm] at h3
  generalize newW (parseP (urS (fb f) ps)).1 (stAt (urS (fb f) ps) (names ps.length)) (urM ps.length) d=r at *
  generalize urS (fb f) ps=T at *
  generalize urM0 ps.length=m0 at *
  generalize urM ps.length=m at *
  clear e1 e2 z1 z2 hp0 hpr hwh y1 y2 y3 y4 y5 hlm
  unfold gls at *
  unfold encWd wCells encMem mCells ivs at *
  refine jC Tryz.func31 Tryz.ntmps31 (fun w0 β0 ext hβ=>?_)
  repeat (first|refine jS ?_|refine jD ?_|refine jB ?_)
  refine jBb [0,1,2,3] h1 ?_
  repeat (first|refine jS ?_|refine jD ?_|refine jB ?_)
  rw [w1]
  repeat (first|refine jS ?_|refine jD ?_|refine jB ?_)
  rw [w2]
  repeat (first|refine jS ?_|refine jD ?_|refine jB ?_|refine jV h2 ?_|refine jV h3 ?_)
  rw [w1]
  repeat (first|refine jad 13 9 1 rfl rfl rfl rfl ?_|refine jS ?_|refine jB ?_|refine jV h5 ?_)
  refine jloopI (fun q:Nat=>q≤ps.length) [2,6,8,11,13,47,48,49] (fun q=>[iv d,.ptr 4 0,sv T,.ptr 5 0,.arr 6 (q+1),.sl (ps.map encPl),.v (.int .i64 ((ps.map encPl).length:Int)),.v (.int .i64 (q:Int))])
   (fun q=>[g.a,g.b,g.c,g.d,.box 33 [.slf [],.slf [],.slf [],iv 0,.slf [],.slf [],.slf []],.box 26 [.sl (m.words.map iv),.sl (m.tags.map iv)],.arr (q+1) 9 1 ((names q).map sv)]) (fun q=>ps.length-q) 0 (Nat.zero_le _) rfl rfl (fun q hq=>?_)
  repeat (first|refine jS ?_|refine jD ?_|refine jB ?_)
  refine jc rfl rfl rfl (fun h=>?_) (fun h=>?_)
  ·have h:=of_decide_eq_true h
   rw [List.length_map] at h
   have hq2:q < ps.length:=by omega
   have hidx:IntKind.i64.wrap ((q:Int)+1)=((q+1:Nat):Int):=idx_next hq2 (by omega)
   have hit:=hit q (by omega) (by omega)
   have hl:=tname_len (n:=q) (by omega)
   have hln:=names_len q
   repeat (first|refine jS ?_|refine jD ?_|refine jB ?_)
   refine jBb [0,1,2,3] hit ?_
   refine jo rfl rfl (cat_str (a:=[116]) (b:=Lib.itoa q) rfl rfl (by unfold tname at hl;simp at hl ⊢;omega)) rfl rfl ?_
   rw [show [116]++Lib.itoa (q:Int)=tname q from rfl]
   repeat (first|refine jS ?_|refine jD ?_|refine jB ?_)
   refine jo rfl rfl (append_enc (enc:=sv) (l:=names q) (tname q) rfl rfl rfl rfl rfl rfl rfl rfl rfl rfl (fun x=>⟨rfl,rfl⟩) rfl (by omega) rfl rfl) rfl rfl ?_
   rw [←names_succ]
   repeat (first|refine jS ?_|refine jD ?_|refine jB ?_)
   refine jnextI (q+1) hq2 ?_ rfl (by omega)
   show some _=some _
   rw [hidx]
  ·have h:=of_decide_eq_false h
   rw [List.length_map] at h
   have:q=ps.length:=by omega
   subst this
   refine jpub 13 rfl rfl rfl rfl ?_
   repeat (first|refine jS ?_|refine jD ?_|refine jB ?_)
   refine jBb [0,1,2,3] h4 ?_
   repeat (first|refine jS ?_|refine jD ?_|refine jB ?_)
   exact jR
 ·have e1:urPg f ps=([],plWhy f ps):=urPg_no rfl hW
  rw [e1] at h1
  rw [urWd_no hW]
  have hne:(plWhy f ps != 0)=true:=by rw [bne_iff_ne];exact hW
  generalize plWhy f ps=n at *
  unfold gls at *
  unfold encWd wCells ivs at *
  refine jC Tryz.func31 Tryz.ntmps31 (fun w0 β0 ext hβ=>?_)
  repeat (first|refine jS ?_|refine jD ?_|refine jB ?_)
  refine jBb [0,1,2,3] h1 ?_
  repeat (first|refine jS ?_|refine jD ?_|refine jB ?_)
  rw [hne]
  repeat (first|refine jS ?_|refine jD ?_|refine jB ?_)
  exact jR
theorem uralive_ok (g:Gl):ACalls Tryz.prog 26 [] (gls g) (one (bv true) (gls g)):=by
 obtain ⟨e1,e2⟩:=urWd_good al_why (d:=1) (by decide)
 have h1:=uworld_ok g 0 [[⟨2,0,0⟩]] 1 (by decide) (by decide)
 rw [e1] at h1
 have h2:=rounds_ok (urO 0 1 [[⟨2,0,0⟩]]) 300 e2 (by decide) (by decide)
 obtain ⟨e3,e4⟩:=al_ur
 generalize (roundsW (urO 0 1 [[⟨2,0,0⟩]]) 300).2=n at *
 generalize (roundsW (urO 0 1 [[⟨2,0,0⟩]]) 300).1=w at *
 generalize urO 0 1 [[⟨2,0,0⟩]]=w0 at *
 clear e1 e2
 have i1:(0:Int)≤1:=by decide
 have j1:(1:Int) < w.evs.length:=by omega
 have hl:((((w.evs.map encEvt).length:Nat):Int) == 2)=true:=by rw [List.length_map,e3];rfl
 unfold gls at *
 unfold encWd wCells ivs at *
 unfold encPl encDd at *
 refine jC Tryz.func26 Tryz.ntmps26 (fun w0 β0 ext hβ=>?_)
 repeat (first|refine jow rfl rfl (buildB_dsem rfl) (fun c u h=>sl_weak h) rfl rfl ?_|refine jS ?_|refine jD ?_|refine jB ?_)
 refine jBb [0,1,2,3] h1 ?_
 repeat (first|refine jS ?_|refine jD ?_|refine jB ?_|refine jV h2 ?_)
 rw [hl]
 repeat (first|refine jS ?_|refine jD ?_|refine jB ?_|refine jI i1 j1 ?_)
 rw [show ((at' w.evs 1).kind == 5)=true from by rw [e4];rfl]
 repeat (first|refine jS ?_|refine jD ?_|refine jB ?_)
 exact jR
end Go.AL
end
section
set_option maxRecDepth 100000
namespace Go.AL
open Go Go.Proofs
attribute [local irreducible] J
theorem rudeed_ok (d:Dd):ACalls Tryz.prog 108 [encDd d] [] (one (bv (mayD d)) []):=by
 have hno:¬((0≤d.kind∧d.kind≤4)∧(0≤d.at_∧d.at_≤7)∧(-1000000000≤d.value∧d.value≤1000000000))→mayD d=false:=fun h=>by
  cases e:mayD d with
  | false=>rfl
  | true=>obtain ⟨a,b,c,_⟩:=mayD_iff.1 e;exact absurd ⟨a,b,c⟩ h
 have hye:((0≤d.kind∧d.kind≤4)∧(0≤d.at_∧d.at_≤7)∧(-1000000000≤d.value∧d.value≤1000000000))→mayD d=((decide (d.kind≥3)||(d.at_ == 0))&&((d.kind == 4)||(d.value == 0))):=fun ⟨a,b,c⟩=>by
  unfold mayD
  rw [inn_iff.2 a,inn_iff.2 b,inn_iff.2 c]
  by_cases k3:d.kind=3
  ·by_cases v0:d.value=0<;>simp [k3,v0]
  ·by_cases k4:d.kind=4
   ·simp [k4]
   ·have:¬d.kind≥3:=by omega
    by_cases a0:d.at_=0<;>by_cases v0:d.value=0<;>simp [k3,k4,a0,v0,this]
 unfold encDd
 by_cases a1:d.kind < 0
 ·rw [hno (by omega)]
  refine jC Tryz.func108 Tryz.ntmps108 (fun w0 β0 ext hβ=>?_)
  repeat (first|refine jS ?_|refine jD ?_|refine jB ?_)
  rw [show decide (d.kind < 0)=true from decide_eq_true a1]
  repeat (first|refine jS ?_|refine jD ?_|refine jB ?_)
  exact jR
 by_cases a2:d.kind > 4
 ·rw [hno (by omega)]
  refine jC Tryz.func108 Tryz.ntmps108 (fun w0 β0 ext hβ=>?_)
  repeat (first|refine jS ?_|refine jD ?_|refine jB ?_)
  rw [show decide (d.kind < 0)=false from decide_eq_false a1]
  repeat (first|refine jS ?_|refine jD ?_|refine jB ?_)
  rw [show decide (d.kind > 4)=true from decide_eq_true a2]
  repeat (first|refine jS ?_|refine jD ?_|refine jB ?_)
  exact jR
 by_cases b1:d.at_ < 0
 ·rw [hno (by omega)]
  refine jC Tryz.func108 Tryz.ntmps108 (fun w0 β0 ext hβ=>?_)
  repeat (first|refine jS ?_|refine jD ?_|refine jB ?_)
  rw [show decide (d.kind < 0)=false from decide_eq_false a1]
  repeat (first|refine jS ?_|refine jD ?_|refine jB ?_)
  rw [show decide (d.kind > 4)=false from decide_eq_false a2]
  repeat (first|refine jS ?_|refine jD ?_|refine jB ?_)
  rw [show decide (d.at_ < 0)=true from decide_eq_true b1]
  repeat (first|refine jS ?_|refine jD ?_|refine jB ?_)
  exact jR
 by_cases b2:d.at_ > 7
 ·rw [hno (by omega)]
  refine jC Tryz.func108 Tryz.ntmps108 (fun w0 β0 ext hβ=>?_)
  repeat (first|refine jS ?_|refine jD ?_|refine jB ?_)
  rw [show decide (d.kind < 0)=false from decide_eq_false a1]
  repeat (first|refine jS ?_|refine jD ?_|refine jB ?_)
  rw [show decide (d.kind > 4)=false from decide_eq_false a2]
  repeat (first|refine jS ?_|refine jD ?_|refine jB ?_)
  rw [show decide (d.at_ < 0)=false from decide_eq_false b1]
  repeat (first|refine jS ?_|refine jD ?_|refine jB ?_)
  rw [show decide (d.at_ > 7)=true from decide_eq_true b2]
  repeat (first|refine jS ?_|refine jD ?_|refine jB ?_)
  exact jR
 by_cases v1:d.value < -1000000000
 ·rw [hno (by omega)]
  refine jC Tryz.func108 Tryz.ntmps108 (fun w0 β0 ext hβ=>?_)
  repeat (first|refine jS ?_|refine jD ?_|refine jB ?_)
  rw [show decide (d.kind < 0)=false from decide_eq_false a1]
  repeat (first|refine jS ?_|refine jD ?_|refine jB ?_)
  rw [show decide (d.kind > 4)=false from decide_eq_false a2]
  repeat (first|refine jS ?_|refine jD ?_|refine jB ?_)
  rw [show decide (d.at_ < 0)=false from decide_eq_false b1]
  repeat (first|refine jS ?_|refine jD ?_|refine jB ?_)
  rw [show decide (d.at_ > 7)=false from decide_eq_false b2]
  repeat (first|refine jS ?_|refine jD ?_|refine jB ?_)
  rw [show decide (d.value < -1000000000)=true from decide_eq_true v1]
  repeat (first|refine jS ?_|refine jD ?_|refine jB ?_)
  exact jR
 have c1:decide (d.kind < 0)=false:=decide_eq_false a1
 have c2:decide (d.kind > 4)=false:=decide_eq_false a2
 have c3:decide (d.at_ < 0)=false:=decide_eq_false b1
 have c4:decide (d.at_ > 7)=false:=decide_eq_false b2
 have c5:decide (d.value < -1000000000)=false:=decide_eq_false v1
 by_cases v2:d.value > 1000000000
 ·rw [hno (by omega)]
  have c6:decide (d.value > 1000000000)=true:=decide_eq_true v2
  refine jC Tryz.func108 Tryz.ntmps108 (fun w0 β0 ext hβ=>?_)
  repeat (first|refine jS ?_|refine jD ?_|refine jB ?_)
  rw [c1]
  repeat (first|refine jS ?_|refine jD ?_|refine jB ?_)
  rw [c2]
  repeat (first|refine jS ?_|refine jD ?_|refine jB ?_)
  rw [c3]
  repeat (first|refine jS ?_|refine jD ?_|refine jB ?_)
  rw [c4]
  repeat (first|refine jS ?_|refine jD ?_|refine jB ?_)
  rw [c5]
  repeat (first|refine jS ?_|refine jD ?_|refine jB ?_)
  rw [c6]
  repeat (first|refine jS ?_|refine jD ?_|refine jB ?_)
  exact jR
 have c6:decide (d.value > 1000000000)=false:=decide_eq_false v2
 rw [hye (by omega)]
 refine jC Tryz.func108 Tryz.ntmps108 (fun w0 β0 ext hβ=>?_)
 repeat (first|refine jS ?_|refine jD ?_|refine jB ?_)
 rw [c1]
 repeat (first|refine jS ?_|refine jD ?_|refine jB ?_)
 rw [c2]
 repeat (first|refine jS ?_|refine jD ?_|refine jB ?_)
 rw [c3]
 repeat (first|refine jS ?_|refine jD ?_|refine jB ?_)
 rw [c4]
 repeat (first|refine jS ?_|refine jD ?_|refine jB ?_)
 rw [c5]
 repeat (first|refine jS ?_|refine jD ?_|refine jB ?_)
 rw [c6]
 repeat (first|refine jS ?_|refine jD ?_|refine jB ?_)
 cases d1:decide (d.kind≥3)<;>cases d2:(d.at_ == 0)<;>cases d3:(d.kind == 4)<;>cases d4:(d.value == 0)
 all_goals (repeat (first|refine jS ?_|rw [d1]|rw [d2]|rw [d3]|rw [d4]))
 all_goals exact jR
theorem ruplan_ok (l:List Dd) (hl:l.length≤1000000):ACalls Tryz.prog 69 [encPl l] [] (one (bv (planB l)) []):=by
 have hmay:=fun d=>rudeed_ok d
 unfold encPl
 refine jC Tryz.func69 Tryz.ntmps69 (fun w0 β0 ext hβ=>?_)
 repeat (first|refine jS ?_|refine jD ?_|refine jB ?_)
 refine jloop 0 (fun k:Nat=>k≤l.length∧∀ q,q < k→okD (dpt (l.take q)) (at' l (q:Int))=true) [3,6,7,8] (fun k=>[.v (.int .i64 (dpt (l.take k))),.sl (l.map encDd),.v (.int .i64 ((l.map encDd).length:Int)),.v (.int .i64 (k:Int))])
  (fun k=>[]) (fun k=>l.length-k) 0 (jbl hβ) ⟨Nat.zero_le _,fun q h=>absurd h (by omega)⟩ rfl rfl (fun k hk=>?_)
 obtain ⟨hk,hok⟩:=hk
 obtain ⟨n0,n3⟩:=dpt_bd k hk hok
 repeat (first|refine jS ?_|refine jD ?_|refine jB ?_)
 refine jc rfl rfl rfl (fun h=>?_) (fun h=>?_)
 ·have h:=of_decide_eq_true h
  rw [List.length_map] at h
  have hk2:k < l.length:=by omega
  have hidx:IntKind.i64.wrap ((k:Int)+1)=((k+1:Nat):Int):=idx_next hk2 (by omega)
  have hno:=@goB_no l k hk2
  have hsu:=@dpt_succ l k hk2
  have hnx:okD (dpt (l.take k)) (at' l (k:Int))=true→∀ q,q < k+1→okD (dpt (l.take q)) (at' l (q:Int))=true:=fun h0 q hq=>by
   by_cases e:q=k
   ·subst e;exact h0
   ·exact hok q (by omega)
  repeat (first|refine jS ?_|refine jD ?_|refine jB ?_|refine jI (Int.natCast_nonneg k) h ?_)
  generalize at' l (k:Int)=d at *
  generalize hn:dpt (l.take k)=n at *
  have hmay:=hmay d
  have w1:IntKind.i64.wrap (n+1)=n+1:=wrap_id (by omega) (by omega)
  have w2:IntKind.i64.wrap (n-1)=n-1:=wrap_id (by omega) (by omega)
  unfold encDd at hmay
  cases hm:mayD d with
  | false =>
   rw [hm] at hmay
   rw [hno (by unfold okD;rw [hm];rfl)]
   repeat (first|refine jS ?_|refine jD ?_|refine jB ?_|refine jV hmay ?_)
   exact jR
  | true =>
   rw [hm] at hmay
   by_cases k0:d.kind=0
   ·have q0:(d.kind == 0)=true:=by rw [k0];rfl
    have q1:(d.kind == 1)=false:=beq_eq_false_iff_ne.2 (by omega)
    have q2:(d.kind == 2)=false:=beq_eq_false_iff_ne.2 (by omega)
    have e:dn1 n d=n+1:=by unfold dn1;rw [decide_eq_true k0];rfl
    repeat (first|refine jS ?_|refine jD ?_|refine jB ?_|refine jV hmay ?_)
    rw [q1]
    repeat (first|refine jS ?_|refine jD ?_|refine jB ?_)
    rw [q2]
    repeat (first|refine jS ?_|refine jD ?_|refine jB ?_)
    rw [q0]
    repeat (first|refine jS ?_|refine jD ?_|refine jB ?_)
    rw [q1]
    repeat (first|refine jS ?_|refine jD ?_|refine jB ?_)
    rw [w1]
    by_cases hi:n+1 > 3
    ·rw [show decide (n+1 > 3)=true from decide_eq_true hi]
     rw [hno (by
      cases e2:okD n d with
      | false=>rfl
      | true=>have:=(okD_iff.1 e2).2.2.2;omega)]
     repeat (first|refine jS ?_|refine jD ?_|refine jB ?_)
     exact jR
    ·rw [show decide (n+1 > 3)=false from decide_eq_false hi]
     have hg:okD n d=true:=okD_iff.2 ⟨hm,fun ⟨a,_⟩=>by omega,by rw [e];omega⟩
     repeat (first|refine jS ?_|refine jD ?_|refine jB ?_)
     refine jnext (k+1) ⟨hk2,hnx hg⟩ (by omega) rfl rfl rfl ?_ rfl
     rw [hidx,hsu,e]<;>rfl
   have q0:(d.kind == 0)=false:=beq_eq_false_iff_ne.2 k0
   by_cases k1:d.kind=1
   ·have q1:(d.kind == 1)=true:=by rw [k1];rfl
    have q2:(d.kind == 2)=false:=beq_eq_false_iff_ne.2 (by omega)
    have e:dn1 n d=n-1:=by unfold dn1;rw [decide_eq_false k0,decide_eq_true k1];rfl
    by_cases hz:n=0
    ·rw [hno (by
      cases e2:okD n d with
      | false=>rfl
      | true=>have:=(okD_iff.1 e2).2.2.1;omega)]
     repeat (first|refine jS ?_|refine jD ?_|refine jB ?_|refine jV hmay ?_)
     rw [q1]
     repeat (first|refine jS ?_|refine jD ?_|refine jB ?_)
     rw [show (n == 0)=true from by rw [hz];rfl]
     repeat (first|refine jS ?_|refine jD ?_|refine jB ?_)
     exact jR
    ·have hg:okD n d=true:=okD_iff.2 ⟨hm,fun ⟨a,_⟩=>by omega,by rw [e];omega⟩
     repeat (first|refine jS ?_|refine jD ?_|refine jB ?_|refine jV hmay ?_)
     rw [q1]
     repeat (first|refine jS ?_|refine jD ?_|refine jB ?_)
     rw [show (n == 0)=false from beq_eq_false_iff_ne.2 hz]
     repeat (first|refine jS ?_|refine jD ?_|refine jB ?_)
     rw [q2]
     repeat (first|refine jS ?_|refine jD ?_|refine jB ?_)
     rw [q0]
     repeat (first|refine jS ?_|refine jD ?_|refine jB ?_)
     rw [q1]
     repeat (first|refine jS ?_|refine jD ?_|refine jB ?_)
     rw [w2]
     rw [show decide (n-1 > 3)=false from decide_eq_false (by omega)]
     repeat (first|refine jS ?_|refine jD ?_|refine jB ?_)
     refine jnext (k+1) ⟨hk2,hnx hg⟩ (by omega) rfl rfl rfl ?_ rfl
     rw [hidx,hsu,e]<;>rfl
   have q1:(d.kind == 1)=false:=beq_eq_false_iff_ne.2 k1
   have e:dn1 n d=n:=by unfold dn1;rw [decide_eq_false k0,decide_eq_false k1];rfl
   by_cases k2:d.kind=2
   ·have q2:(d.kind == 2)=true:=by rw [k2];rfl
    by_cases hn2:n > 0
    ·rw [hno (by unfold okD;rw [decide_eq_true k2,decide_eq_true hn2];simp)]
     repeat (first|refine jS ?_|refine jD ?_|refine jB ?_|refine jV hmay ?_)
     rw [q1]
     repeat (first|refine jS ?_|refine jD ?_|refine jB ?_)
     rw [q2]
     repeat (first|refine jS ?_|refine jD ?_|refine jB ?_)
     rw [show decide (n > 0)=true from decide_eq_true hn2]
     repeat (first|refine jS ?_|refine jD ?_|refine jB ?_)
     exact jR
    ·have hg:okD n d=true:=okD_iff.2 ⟨hm,fun ⟨_,a⟩=>hn2 a,by rw [e];exact ⟨n0,n3⟩⟩
     repeat (first|refine jS ?_|refine jD ?_|refine jB ?_|refine jV hmay ?_)
     rw [q1]
     repeat (first|refine jS ?_|refine jD ?_|refine jB ?_)
     rw [q2]
     repeat (first|refine jS ?_|refine jD ?_|refine jB ?_)
     rw [show decide (n > 0)=false from decide_eq_false hn2]
     repeat (first|refine jS ?_|refine jD ?_|refine jB ?_)
     rw [q0]
     repeat (first|refine jS ?_|refine jD ?_|refine jB ?_)
     rw [q1]
     repeat (first|refine jS ?_|refine jD ?_|refine jB ?_)
     rw [show decide (n > 3)=false from decide_eq_false (by omega)]
     repeat (first|refine jS ?_|refine jD ?_|refine jB ?_)
     refine jnext (k+1) ⟨hk2,hnx hg⟩ (by omega) rfl rfl rfl ?_ rfl
     rw [hidx,hsu,e]<;>rfl
   ·have q2:(d.kind == 2)=false:=beq_eq_false_iff_ne.2 k2
    have hg:okD n d=true:=okD_iff.2 ⟨hm,fun ⟨a,_⟩=>k2 a,by rw [e];exact ⟨n0,n3⟩⟩
    repeat (first|refine jS ?_|refine jD ?_|refine jB ?_|refine jV hmay ?_)
    rw [q1]
    repeat (first|refine jS ?_|refine jD ?_|refine jB ?_)
    rw [q2]
    repeat (first|refine jS ?_|refine jD ?_|refine jB ?_)
    rw [q0]
    repeat (first|refine jS ?_|refine jD ?_|refine jB ?_)
    rw [q1]
    repeat (first|refine jS ?_|refine jD ?_|refine jB ?_)
    rw [show decide (n > 3)=false from decide_eq_false (by omega)]
    repeat (first|refine jS ?_|refine jD ?_|refine jB ?_)
    refine jnext (k+1) ⟨hk2,hnx hg⟩ (by omega) rfl rfl rfl ?_ rfl
    rw [hidx,hsu,e]<;>rfl
 ·have h:=of_decide_eq_false h
  rw [List.length_map] at h
  have:k=l.length:=by omega
  subst this
  rw [List.take_length]
  rw [planB_end hok]
  have e:(dpt l == 0)=decide (dpt l=0):=by by_cases h:dpt l=0<;>simp [h]
  repeat (first|refine jS ?_|refine jD ?_|refine jB ?_)
  rw [e]
  exact jR
end Go.AL
end
section
set_option maxRecDepth 100000
namespace Go.AL
open Go Go.Proofs
attribute [local irreducible] J
theorem rwhy_ok (f:Int) (ps:List (List Dd)) (hl:ps.length≤1000000) (hr:∀ l∈ps,l.length≤1000000):ACalls Tryz.prog 33 [iv f,.sl (ps.map encPl)] [] (one (iv (plWhy f ps)) []):=by
 have hpl:=fun l h=>ruplan_ok l h
 by_cases c1:(((ps.map encPl).length:Nat):Int) < 1
 ·rw [why_size (by rw [List.length_map] at c1;omega)]
  refine jC Tryz.func33 Tryz.ntmps33 (fun w0 β0 ext hβ=>?_)
  repeat (first|refine jS ?_|refine jD ?_|refine jB ?_)
  rw [show decide ((((ps.map encPl).length:Nat):Int) < 1)=true from decide_eq_true c1]
  repeat (first|refine jS ?_|refine jD ?_|refine jB ?_)
  exact jR
 by_cases c8:(((ps.map encPl).length:Nat):Int) > 8
 ·rw [why_size (by rw [List.length_map] at c8;omega)]
  refine jC Tryz.func33 Tryz.ntmps33 (fun w0 β0 ext hβ=>?_)
  repeat (first|refine jS ?_|refine jD ?_|refine jB ?_)
  rw [show decide ((((ps.map encPl).length:Nat):Int) < 1)=false from decide_eq_false c1]
  repeat (first|refine jS ?_|refine jD ?_|refine jB ?_)
  rw [show decide ((((ps.map encPl).length:Nat):Int) > 8)=true from decide_eq_true c8]
  repeat (first|refine jS ?_|refine jD ?_|refine jB ?_)
  exact jR
 have d1:decide ((((ps.map encPl).length:Nat):Int) < 1)=false:=decide_eq_false c1
 have d8:decide ((((ps.map encPl).length:Nat):Int) > 8)=false:=decide_eq_false c8
 rw [List.length_map] at c1 c8
 refine jC Tryz.func33 Tryz.ntmps33 (fun w0 β0 ext hβ=>?_)
 repeat (first|refine jS ?_|refine jD ?_|refine jB ?_)
 rw [d1]
 repeat (first|refine jS ?_|refine jD ?_|refine jB ?_)
 rw [d8]
 repeat (first|refine jS ?_|refine jD ?_|refine jB ?_)
 refine jloopI (fun k:Nat=>k≤ps.length∧∀ q,q < k→(at' ps (q:Int)).length≤8) [0,1,17,18,19] (fun k=>[iv f,.sl (ps.map encPl),.sl (ps.map encPl),.v (.int .i64 ((ps.map encPl).length:Int)),.v (.int .i64 (k:Int))])
  (fun k=>[]) (fun k=>ps.length-k) 0 ⟨Nat.zero_le _,fun q h=>absurd h (by omega)⟩ rfl rfl (fun k hk=>?_)
 obtain ⟨hk,hok⟩:=hk
 repeat (first|refine jS ?_|refine jD ?_|refine jB ?_)
 refine jc rfl rfl rfl (fun h=>?_) (fun h=>?_)
 ·have h:=of_decide_eq_true h
  rw [List.length_map] at h
  have hk2:k < ps.length:=by omega
  have hidx:IntKind.i64.wrap ((k:Int)+1)=((k+1:Nat):Int):=idx_next hk2 (by omega)
  have hm:=at_mem hk2
  repeat (first|refine jS ?_|refine jD ?_|refine jB ?_|refine jI (enc:=encPl) (l:=ps) (Int.natCast_nonneg k) h ?_)
  generalize hL:at' ps (k:Int)=L at *
  unfold encPl
  by_cases e8:L.length≤8
  ·rw [show decide ((((L.map encDd).length:Nat):Int) > 8)=false from decide_eq_false (by rw [List.length_map];omega)]
   repeat (first|refine jS ?_|refine jD ?_|refine jB ?_)
   refine jnextI (k+1) ⟨hk2,fun q hq=>?_⟩ ?_ rfl (by omega)
   ·by_cases e:q=k
    ·subst e;rw [hL];exact e8
    ·exact hok q (by omega)
   ·rw [hidx]<;>rfl
  ·rw [show decide ((((L.map encDd).length:Nat):Int) > 8)=true from decide_eq_true (by rw [List.length_map];omega)]
   rw [why_len hm e8]
   repeat (first|refine jS ?_|refine jD ?_|refine jB ?_)
   exact jR
 have h:=of_decide_eq_false h
 rw [List.length_map] at h
 have:k=ps.length:=by omega
 subst this
 have hr8:∀ l∈ps,l.length≤8:=fun l hl=>by
  obtain ⟨q,hq,rfl⟩:=List.getElem_of_mem hl
  have:=hok q hq
  rw [at_nat ps q hq] at this
  exact this
 clear hok h hk
 have hsz:=why_sized (f:=f) (by omega) (by omega) hr8
 have hfn:¬(0≤f∧f≤1)→plWhy f ps=1:=fun h=>by
  rw [hsz,show inn f 0 1=false from by cases e:inn f 0 1 with
   | false=>rfl
   | true=>exact absurd (inn_iff.1 e) h];rfl
 by_cases f0:f < 0
 ·rw [hfn (by omega)]
  repeat (first|refine jS ?_|refine jD ?_|refine jB ?_)
  rw [show decide (f < 0)=true from decide_eq_true f0]
  repeat (first|refine jS ?_|refine jD ?_|refine jB ?_)
  exact jR
 by_cases f1:f > 1
 ·rw [hfn (by omega)]
  repeat (first|refine jS ?_|refine jD ?_|refine jB ?_)
  rw [show decide (f < 0)=false from decide_eq_false f0]
  repeat (first|refine jS ?_|refine jD ?_|refine jB ?_)
  rw [show decide (f > 1)=true from decide_eq_true f1]
  repeat (first|refine jS ?_|refine jD ?_|refine jB ?_)
  exact jR
 rw [inn_iff.2 ⟨by omega,by omega⟩,Bool.true_and] at hsz
 repeat (first|refine jS ?_|refine jD ?_|refine jB ?_)
 rw [show decide (f < 0)=false from decide_eq_false f0]
 repeat (first|refine jS ?_|refine jD ?_|refine jB ?_)
 rw [show decide (f > 1)=false from decide_eq_false f1]
 repeat (first|refine jS ?_|refine jD ?_|refine jB ?_)
 refine jloopI (fun k:Nat=>k≤ps.length∧∀ l∈ps.take k,planB l=true) [0,1,33,34,35] (fun k=>[iv f,.sl (ps.map encPl),.sl (ps.map encPl),.v (.int .i64 ((ps.map encPl).length:Int)),.v (.int .i64 (k:Int))])
  (fun k=>[]) (fun k=>ps.length-k) 0 ⟨Nat.zero_le _,fun l hl=>by cases hl⟩ rfl rfl (fun k hk=>?_)
 obtain ⟨hk,hok⟩:=hk
 repeat (first|refine jS ?_|refine jD ?_|refine jB ?_)
 refine jc rfl rfl rfl (fun h=>?_) (fun h=>?_)
 ·have h:=of_decide_eq_true h
  rw [List.length_map] at h
  have hk2:k < ps.length:=by omega
  have hidx:IntKind.i64.wrap ((k:Int)+1)=((k+1:Nat):Int):=idx_next hk2 (by omega)
  have hm:=at_mem hk2
  have hpl:=hpl (at' ps (k:Int)) (hr _ hm)
  have hnx:planB (at' ps (k:Int))=true→∀ l∈ps.take (k+1),planB l=true:=fun h0 l hl=>by
   rw [List.take_succ_eq_append_getElem hk2] at hl
   rcases List.mem_append.1 hl with hl|hl
   ·exact hok l hl
   ·rw [List.mem_singleton.1 hl,←at_nat ps k hk2];exact h0
  repeat (first|refine jS ?_|refine jD ?_|refine jB ?_|refine jI (enc:=encPl) (l:=ps) (Int.natCast_nonneg k) h ?_)
  generalize at' ps (k:Int)=L at *
  unfold encPl at hpl ⊢
  cases hp:planB L with
  | false =>
   rw [hp] at hpl
   have:(ps.all planB)=false:=List.all_eq_false.2 ⟨L,hm,by rw [hp];decide⟩
   rw [this] at hsz
   rw [hsz]
   repeat (first|refine jS ?_|refine jD ?_|refine jB ?_|refine jV hpl ?_)
   exact jR
  | true =>
   rw [hp] at hpl
   repeat (first|refine jS ?_|refine jD ?_|refine jB ?_|refine jV hpl ?_)
   refine jnextI (k+1) ⟨hk2,hnx hp⟩ ?_ rfl (by omega)
   rw [hidx]<;>rfl
 ·have h:=of_decide_eq_false h
  rw [List.length_map] at h
  have:k=ps.length:=by omega
  subst this
  rw [List.take_length] at hok
  rw [List.all_eq_true.2 hok] at hsz
  rw [hsz]
  repeat (first|refine jS ?_|refine jD ?_|refine jB ?_)
  exact jR
def tD0:Bs:=[115,101,116,32,114,48,32,49,10,99,97,108,108,32,114,108,111,99,107,10,109,97,114,107,32,50,10]
def tD1:Bs:=[109,97,114,107,32,51,10,115,101,116,32,114,48,32,49,10,99,97,108,108,32,114,117,110,108,111,99,107,10]
def tD2:Bs:=[109,97,114,107,32,52,10,115,101,116,32,114,48,32,49,10,99,97,108,108,32,115,121,110,99,10,109,97,114,107,32,53,10]
def tD3:Bs:=[108,111,97,100,32,114,48,32,114,49,32,48,10,109,97,114,107,32,54,10]
def tD4:Bs:=[115,116,111,114,101,32,114,48,32,114,49,32,48,10,109,97,114,107,32,55,10]
set_option maxHeartbeats 4000000 in
theorem rulines_ok (d:Dd) (c:Int) (hv:bd d.value) (hc:bd c):ACalls Tryz.prog 75 [encDd d,iv c] [] (one (sv (ltx (ddLn d c))) []):=by
 have hd:=digits_ok c hc
 have hd2:=digits_ok d.value hv
 have l1:=itoa_len hc
 have l2:=itoa_len hv
 have a1:([115,101,116,32,114,49,32]:Bs).length=7:=rfl
 have a2:([115,101,116,32,114,48,32]:Bs).length=7:=rfl
 have a3:tD3.length=20:=rfl
 have a4:tD4.length=21:=rfl
 have hK:setK c=[115,101,116,32,114,49,32]++Lib.itoa c:=rfl
 have hV:setV d.value=[115,101,116,32,114,48,32]++Lib.itoa d.value:=rfl
 have e3:ltx (setK c::dd3)=(([115,101,116,32,114,49,32]++Lib.itoa c)++[10])++tD3:=by
  rw [ltx_cons,hK,show ltx dd3=tD3 by decide]<;>simp
 have e4:ltx (setV d.value::setK c::dd4)=((([115,101,116,32,114,48,32]++Lib.itoa d.value)++[10])++(([115,101,116,32,114,49,32]++Lib.itoa c)++[10]))++tD4:=by
  rw [ltx_cons,ltx_cons,hK,hV,show ltx dd4=tD4 by decide];simp
 unfold encDd
 by_cases k0:d.kind=0
 ·rw [show ddLn d c=dd0 by unfold ddLn;rw [k0]<;>rfl,show ltx dd0=tD0 by decide,k0]
  refine jC Tryz.func75 Tryz.ntmps75 (fun w0 β0 ext hβ=>?_)
  repeat (first|refine jS ?_|refine jD ?_|refine jB ?_|refine jV hd ?_)
  refine jo rfl rfl (cat_str (a:=[115,101,116,32,114,49,32]) (b:=Lib.itoa c) rfl rfl (by omega)) rfl rfl ?_
  repeat (first|refine jS ?_|refine jD ?_|refine jB ?_)
  refine jo rfl rfl (cat_str (a:=[115,101,116,32,114,49,32]++Lib.itoa c) (b:=[10]) rfl rfl (by simp only [List.length_append,List.length_cons,List.length_nil];omega)) rfl rfl ?_
  repeat (first|refine jS ?_|refine jD ?_|refine jB ?_)
  exact jR
 by_cases k1:d.kind=1
 ·rw [show ddLn d c=dd1 by unfold ddLn;rw [k1]<;>rfl,show ltx dd1=tD1 by decide,k1]
  refine jC Tryz.func75 Tryz.ntmps75 (fun w0 β0 ext hβ=>?_)
  repeat (first|refine jS ?_|refine jD ?_|refine jB ?_|refine jV hd ?_)
  refine jo rfl rfl (cat_str (a:=[115,101,116,32,114,49,32]) (b:=Lib.itoa c) rfl rfl (by omega)) rfl rfl ?_
  repeat (first|refine jS ?_|refine jD ?_|refine jB ?_)
  refine jo rfl rfl (cat_str (a:=[115,101,116,32,114,49,32]++Lib.itoa c) (b:=[10]) rfl rfl (by simp only [List.length_append,List.length_cons,List.length_nil];omega)) rfl rfl ?_
  repeat (first|refine jS ?_|refine jD ?_|refine jB ?_)
  exact jR
 by_cases k2:d.kind=2
 ·rw [show ddLn d c=dd2 by unfold ddLn;rw [k2]<;>rfl,show ltx dd2=tD2 by decide,k2]
  refine jC Tryz.func75 Tryz.ntmps75 (fun w0 β0 ext hβ=>?_)
  repeat (first|refine jS ?_|refine jD ?_|refine jB ?_|refine jV hd ?_)
  refine jo rfl rfl (cat_str (a:=[115,101,116,32,114,49,32]) (b:=Lib.itoa c) rfl rfl (by omega)) rfl rfl ?_
  repeat (first|refine jS ?_|refine jD ?_|refine jB ?_)
  refine jo rfl rfl (cat_str (a:=[115,101,116,32,114,49,32]++Lib.itoa c) (b:=[10]) rfl rfl (by simp only [List.length_append,List.length_cons,List.length_nil];omega)) rfl rfl ?_
  repeat (first|refine jS ?_|refine jD ?_|refine jB ?_)
  exact jR
 by_cases k3:d.kind=3
 ·rw [show ddLn d c=setK c::dd3 by unfold ddLn;rw [k3]<;>rfl,e3,k3]
  refine jC Tryz.func75 Tryz.ntmps75 (fun w0 β0 ext hβ=>?_)
  repeat (first|refine jS ?_|refine jD ?_|refine jB ?_|refine jV hd ?_)
  refine jo rfl rfl (cat_str (a:=[115,101,116,32,114,49,32]) (b:=Lib.itoa c) rfl rfl (by omega)) rfl rfl ?_
  repeat (first|refine jS ?_|refine jD ?_|refine jB ?_)
  refine jo rfl rfl (cat_str (a:=[115,101,116,32,114,49,32]++Lib.itoa c) (b:=[10]) rfl rfl (by simp only [List.length_append,List.length_cons,List.length_nil];omega)) rfl rfl ?_
  repeat (first|refine jS ?_|refine jD ?_|refine jB ?_)
  refine jo rfl rfl (cat_str (a:=([115,101,116,32,114,49,32]++Lib.itoa c)++[10]) (b:=tD3) rfl rfl (by simp only [List.length_append,List.length_cons,List.length_nil];omega)) rfl rfl ?_
  repeat (first|refine jS ?_|refine jD ?_|refine jB ?_)
  exact jR
 rw [ddLn_else k0 k1 k2 k3,e4]
 have q0:(d.kind == 0)=false:=beq_eq_false_iff_ne.2 k0
 have q1:(d.kind == 1)=false:=beq_eq_false_iff_ne.2 k1
 have q2:(d.kind == 2)=false:=beq_eq_false_iff_ne.2 k2
 have q3:(d.kind == 3)=false:=beq_eq_false_iff_ne.2 k3
 refine jC Tryz.func75 Tryz.ntmps75 (fun w0 β0 ext hβ=>?_)
 repeat (first|refine jS ?_|refine jD ?_|refine jB ?_|refine jV hd ?_)
 refine jo rfl rfl (cat_str (a:=[115,101,116,32,114,49,32]) (b:=Lib.itoa c) rfl rfl (by omega)) rfl rfl ?_
 repeat (first|refine jS ?_|refine jD ?_|refine jB ?_)
 refine jo rfl rfl (cat_str (a:=[115,101,116,32,114,49,32]++Lib.itoa c) (b:=[10]) rfl rfl (by simp only [List.length_append,List.length_cons,List.length_nil];omega)) rfl rfl ?_
 repeat (first|refine jS ?_|refine jD ?_|refine jB ?_)
 rw [q0]
 repeat (first|refine jS ?_|refine jD ?_|refine jB ?_)
 rw [q1]
 repeat (first|refine jS ?_|refine jD ?_|refine jB ?_)
 rw [q2]
 repeat (first|refine jS ?_|refine jD ?_|refine jB ?_)
 rw [q3]
 repeat (first|refine jS ?_|refine jD ?_|refine jB ?_|refine jV hd2 ?_)
 refine jo rfl rfl (cat_str (a:=[115,101,116,32,114,48,32]) (b:=Lib.itoa d.value) rfl rfl (by omega)) rfl rfl ?_
 repeat (first|refine jS ?_|refine jD ?_|refine jB ?_)
 refine jo rfl rfl (cat_str (a:=[115,101,116,32,114,48,32]++Lib.itoa d.value) (b:=[10]) rfl rfl (by simp only [List.length_append,List.length_cons,List.length_nil];omega)) rfl rfl ?_
 repeat (first|refine jS ?_|refine jD ?_|refine jB ?_)
 refine jo rfl rfl (cat_str (a:=([115,101,116,32,114,48,32]++Lib.itoa d.value)++[10]) (b:=([115,101,116,32,114,49,32]++Lib.itoa c)++[10]) rfl rfl (by simp only [List.length_append,List.length_cons,List.length_nil];omega)) rfl rfl ?_
 repeat (first|refine jS ?_|refine jD ?_|refine jB ?_)
 refine jo rfl rfl (cat_str (a:=(([115,101,116,32,114,48,32]++Lib.itoa d.value)++[10])++(([115,101,116,32,114,49,32]++Lib.itoa c)++[10])) (b:=tD4) rfl rfl (by simp only [List.length_append,List.length_cons,List.length_nil];omega)) rfl rfl ?_
 repeat (first|refine jS ?_|refine jD ?_|refine jB ?_)
 exact jR
def urT1:Bs:=[114,108,111,99,107,58,10,115,101,108,102,32,114,49,10,97,100,100,32,114,49,32,114,49,32,114,48,10,108,111,97,100,32,114,50,32,114,49,32,51,10,109,97,115,107,32,114,51,32,114,50,32,54,51,10,115,111,109,101,32,114,51,32,110,101,115,116,101,100,10,108,111,97,100,32,114,50,32,114,48,32,48,10,115,116,111,114,101,32,114,50,32,114,49,32,51,10,102,101,110,99,101,10,114,101,116,10,110,101,115,116,101,100,58,10,112,108,117,115,32,114,50,32,114,50,32,49,10,115,116,111,114,101,32,114,50,32,114,49,32,51,10,114,101,116,10,114,117,110,108,111,99,107,58,10,115,101,108,102,32,114,49,10,97,100,100,32,114,49,32,114,49,32,114,48,10,108,111,97,100,32,114,50,32,114,49,32,51,10,112,108,117,115,32,114,50,32,114,50,32,45,49,10,115,116,111,114,101,32,114,50,32,114,49,32,51,10,114,101,116,10,115,121,110,99,58,10,109,111,118,101,32,114,52,32,114,48,10,112,108,117,115,32,114,48,32,114,52,32,49,10,99,97,108,108,32,108,111,99,107,10,102,101,110,99,101,10,115,101,116,32,114,53,32,50,10,102,108,105,112,58,10,108,111,97,100,32,114,49,32,114,52,32,48,10,115,101,116,32,114,50,32,54,52,10,120,111,114,32,114,49,32,114,49,32,114,50,10,115,116,111,114,101,32,114,49,32,114,52,32,48,10,102,101,110,99,101,10,108,111,97,100,32,114,54,32,114,52,32,50,10,101,97,99,104,58,10,122,101,114,111,32,114,54,32,112,97,115,115,101,100,10,112,108,117,115,32,114,54,32,114,54,32,45,49,10,97,100,100,32,114,55,32,114,52,32,114,54,10,108,111,111,107,58,10,108,111,97,100,32,114,49,32,114,55,32,51,10,109,97,115,107,32,114,50,32,114,49,32,54,51,10,122,101,114,111,32,114,50,32,101,97,99,104,10,108,111,97,100,32,114,50,32,114,52,32,48,10,120,111,114,32,114,50,32,114,50,32,114,49,10,109,97,115,107,32,114,50,32,114,50,32,54,52,10,122,101,114,111,32,114,50,32,101,97,99,104,10,112,108,117,115,32,114,50,32,114,55,32,51,10,119,97,105,116,32,114,49,32,114,50,10,106,117,109,112,32,108,111,111,107,10,112,97,115,115,101,100,58,10,112,108,117,115,32,114,53,32,114,53,32,45,49,10,115,111,109,101,32,114,53,32,102,108,105,112,10,102,101,110,99,101,10,112,108,117,115,32,114,48,32,114,52,32,49,10,99,97,108,108,32,117,110,108,111,99,107,10,114,101,116,10]
theorem urT1_eq:ltx ur1=urT1:=by decide +kernel
def syncL:Bs:=[115,121,110,99,58]
def fenL:Bs:=[102,101,110,99,101]
def broL:Bs:=[98,114,111,97,100]
def flN (s:Bs × Bool) (l:Bs):Bs × Bool:=cond (decide (l=fenL) && !(s.2||decide (l=syncL))) (s.1,s.2||decide (l=syncL)) (s.1++(cond (decide (l=fenL)) broL l)++[10],s.2||decide (l=syncL))
def flP (q:Nat):Bs × Bool:=(ur1.take q).foldl flN ([],false)
theorem flP_succ {q:Nat} (h:q < ur1.length):flP (q+1)=flN (flP q) (at' ur1 (q:Int)):=by
 unfold flP
 rw [List.take_succ_eq_append_getElem h,List.foldl_append,at_nat ur1 q h];rfl
theorem flP_end:(flP 56).1=ltx ur2:=by decide +kernel
theorem flP_len:∀ q,q < 57→(flP q).1.length≤1000:=by decide +kernel
theorem ur1_len:ur1.length=56:=by decide +kernel
theorem ur1_wid:∀ l∈ur1,l.length≤100:=by decide +kernel
theorem ur1_split:rsplit 10 (urT1.take 601)=ur1:=by rw [rsplit_eq];decide +kernel
theorem flP_0:flP 0=([],false):=rfl
set_option maxHeartbeats 8000000 in
theorem rutext_ok (f:Int) (hf:f=0∨f=1):ACalls Tryz.prog 32 [iv f] [] (one (sv (ltx (urC (fb f)))) []):=by
 rcases hf with rfl|rfl
 ·rw [show ltx (urC (fb 0))=urT1 from urT1_eq]
  refine jC Tryz.func32 Tryz.ntmps32 (fun w0 β0 ext hβ=>?_)
  repeat (first|refine jS ?_|refine jD ?_|refine jB ?_)
  exact jR
 ·rw [show ltx (urC (fb 1))=(flP 56).1 from flP_end.symm]
  have hs:=rsplit_ok (urT1.take 601) 10 (by decide +kernel)
  rw [ur1_split] at hs
  have h601:(601:Nat)≤urT1.length:=by decide +kernel
  have hn:=ur1_len
  have hwid:=ur1_wid
  have hsu:=fun q h=>@flP_succ q h
  have hfl:=flP_len
  have h0:=flP_0
  generalize hT:urT1=TT at *
  refine jC Tryz.func32 Tryz.ntmps32 (fun w0 β0 ext hβ=>?_)
  repeat (first|refine jS ?_|refine jD ?_|refine jB ?_)
  refine jo rfl rfl (cutH (s:=TT) 601 (by rw [←hT];rfl) rfl rfl rfl rfl h601) rfl rfl ?_
  repeat (first|refine jS ?_|refine jD ?_|refine jB ?_|refine jV hs ?_)
  generalize ur1=U at *
  refine jloopI (fun q:Nat=>q≤56) [3,4,10,11,12] (fun q=>[sv (flP q).1,.v (.bool (flP q).2),.sl (U.map sv),.v (.int .i64 ((U.map sv).length:Int)),.v (.int .i64 (q:Int))])
   (fun q=>[]) (fun q=>56-q) 0 (Nat.zero_le _) (by rw [h0];rfl) rfl (fun q hq=>?_)
  repeat (first|refine jS ?_|refine jD ?_|refine jB ?_)
  refine jc rfl rfl rfl (fun h=>?_) (fun h=>?_)
  ·have h:=of_decide_eq_true h
   rw [List.length_map] at h
   have hq2:q < 56:=by omega
   have hqU:(q:Int) < U.length:=by omega
   have hidx:IntKind.i64.wrap ((q:Int)+1)=((q+1:Nat):Int):=idx_next (show q < U.length by omega) (by omega)
   have hsu:=hsu q (by omega)
   have hw:=hwid _ (at_mem (show q < U.length by omega))
   have hB:=hfl q (by omega)
   repeat (first|refine jS ?_|refine jD ?_|refine jB ?_|refine jI (enc:=sv) (l:=U) (Int.natCast_nonneg q) hqU ?_)
   generalize hS:flP (q+1)=S2 at *
   generalize flP q=S at *
   generalize at' U (q:Int)=l at *
   have k1:(({ data:=l.toArray }:ByteArray).toList == ({ data:=#[115,121,110,99,58] }:ByteArray).toList)=decide (l=syncL):=str_eq l syncL
   have k2:(({ data:=l.toArray }:ByteArray).toList == ({ data:=#[102,101,110,99,101] }:ByteArray).toList)=decide (l=fenL):=str_eq l fenL
   obtain ⟨o,b⟩:=S
   simp only at hB
   unfold flN at hsu
   simp only at hsu
   rw [k1]
   by_cases e1:l=syncL
   ·have e2:l≠fenL:=by rw [e1];decide
    rw [decide_eq_true e1,decide_eq_false e2,Bool.or_true] at hsu
    have hS2:S2=(o++l++[10],true):=hsu
    rw [decide_eq_true e1]
    repeat (first|refine jS ?_|refine jD ?_|refine jB ?_)
    rw [k2,decide_eq_false e2]
    repeat (first|refine jS ?_|refine jD ?_|refine jB ?_)
    rw [k2,decide_eq_false e2]
    repeat (first|refine jS ?_|refine jD ?_|refine jB ?_)
    refine jo rfl rfl (cat_str (a:=o) (b:=l) rfl rfl (by omega)) rfl rfl ?_
    repeat (first|refine jS ?_|refine jD ?_|refine jB ?_)
    refine jo rfl rfl (cat_str (a:=o++l) (b:=[10]) rfl rfl (by simp only [List.length_append,List.length_cons,List.length_nil];omega)) rfl rfl ?_
    repeat (first|refine jS ?_|refine jD ?_|refine jB ?_)
    refine jnextI (q+1) hq2 ?_ rfl (by omega)
    rw [hidx,hS,hS2]<;>rfl
   ·rw [decide_eq_false e1,Bool.or_false] at hsu
    rw [decide_eq_false e1]
    repeat (first|refine jS ?_|refine jD ?_|refine jB ?_)
    rw [k2]
    by_cases e2:l=fenL
    ·rw [decide_eq_true e2] at hsu ⊢
     cases b with
     | false =>
      have hS2:S2=(o,false):=hsu
      repeat (first|refine jS ?_|refine jD ?_|refine jB ?_)
      refine jnextI (q+1) hq2 ?_ rfl (by omega)
      rw [hidx,hS,hS2]<;>rfl
     | true =>
      have hS2:S2=(o++broL++[10],true):=hsu
      have hb5:broL.length=5:=rfl
      repeat (first|refine jS ?_|refine jD ?_|refine jB ?_)
      rw [k2,decide_eq_true e2]
      repeat (first|refine jS ?_|refine jD ?_|refine jB ?_)
      refine jo rfl rfl (cat_str (a:=o) (b:=broL) rfl rfl (by omega)) rfl rfl ?_
      repeat (first|refine jS ?_|refine jD ?_|refine jB ?_)
      refine jo rfl rfl (cat_str (a:=o++broL) (b:=[10]) rfl rfl (by simp only [List.length_append,List.length_cons,List.length_nil];omega)) rfl rfl ?_
      repeat (first|refine jS ?_|refine jD ?_|refine jB ?_)
      refine jnextI (q+1) hq2 ?_ rfl (by omega)
      rw [hidx,hS,hS2]<;>rfl
    ·rw [decide_eq_false e2] at hsu ⊢
     have hS2:S2=(o++l++[10],b):=hsu
     repeat (first|refine jS ?_|refine jD ?_|refine jB ?_)
     rw [k2,decide_eq_false e2]
     repeat (first|refine jS ?_|refine jD ?_|refine jB ?_)
     refine jo rfl rfl (cat_str (a:=o) (b:=l) rfl rfl (by omega)) rfl rfl ?_
     repeat (first|refine jS ?_|refine jD ?_|refine jB ?_)
     refine jo rfl rfl (cat_str (a:=o++l) (b:=[10]) rfl rfl (by simp only [List.length_append,List.length_cons,List.length_nil];omega)) rfl rfl ?_
     repeat (first|refine jS ?_|refine jD ?_|refine jB ?_)
     refine jnextI (q+1) hq2 ?_ rfl (by omega)
     rw [hidx,hS,hS2]<;>rfl
  ·have h:=of_decide_eq_false h
   rw [List.length_map] at h
   have:q=56:=by omega
   subst this
   repeat (first|refine jS ?_|refine jD ?_|refine jB ?_)
   exact jR
end Go.AL
end
section
set_option maxRecDepth 100000
namespace Go.AL
open Go Go.Proofs
attribute [local irreducible] J
set_option maxHeartbeats 8000000 in
theorem ruprog_ok (f:Int) (ps:List (List Dd)) (hW:plWhy f ps=0):ACalls Tryz.prog 35 [iv f,.sl (ps.map encPl)] [] (one (sv (urS (fb f) ps)) []):=by
 obtain ⟨⟨h1,h8⟩,hr8,hf,hpl⟩:=plw_ok hW
 have htx:=rutext_ok f (by omega)
 have hli:=fun d c hv hc=>rulines_ok d c hv hc
 have hC:(ltx (urC (fb f))).length≤2000:=by cases fb f<;>decide +kernel
 have hlen:=fun k (hk:k≤ps.length)=>urU_len (fb f) h8 hr8 hk (fun l hl=>hpl l (List.mem_of_mem_take hl))
 have hsu:=fun k (hk:k < ps.length)=>urU_succ (fb f) ps hk
 have hDs:=fun C l j (hj:j < l.length)=>urD_succ ps.length C l hj
 have hDl:=fun C l (h:∀ d∈l,DdB ps.length d) j=>urD_len C h j
 have h0:=urU_0 (fb f) ps
 have hall:=urU_all (fb f) ps
 have hdg:=fun (k:Nat) (hk:k≤100)=>digits_ok (k:Int) ⟨by omega,by omega⟩
 generalize fb f=b at *
 rw [←hall]
 refine jC Tryz.func35 Tryz.ntmps35 (fun w0 β0 ext hβ=>?_)
 repeat (first|refine jS ?_|refine jD ?_|refine jB ?_|refine jV htx ?_)
 refine jo rfl rfl (cat_str (a:=spT) (b:=ltx (urC b)) rfl rfl (Nat.le_trans (Nat.add_le_add (show spT.length≤1000 by decide) hC) (by decide))) rfl rfl ?_
 rw [←h0]
 clear h0 htx
 repeat (first|refine jS ?_|refine jD ?_|refine jB ?_)
 refine jloop 0 (fun k:Nat=>k≤ps.length) [1,5,13,14,15] (fun k=>[.sl (ps.map encPl),sv (urU b ps k),.sl (ps.map encPl),.v (.int .i64 ((ps.map encPl).length:Int)),.v (.int .i64 (k:Int))])
  (fun k=>[]) (fun k=>ps.length-k) 0 (jbl hβ) (Nat.zero_le _) rfl rfl (fun k hk=>?_)
 repeat (first|refine jS ?_|refine jD ?_|refine jB ?_)
 refine jc rfl rfl rfl (fun h=>?_) (fun h=>?_)
 ·have h:=of_decide_eq_true h
  rw [List.length_map] at h
  have hk2:k < ps.length:=by omega
  have hidx:IntKind.i64.wrap ((k:Int)+1)=((k+1:Nat):Int):=idx_next hk2 (by omega)
  have hm:=at_mem hk2
  have hL8:=hr8 _ hm
  have hpl:=hpl _ hm
  have hUl:=hlen k hk
  have hsu:=hsu k hk2
  repeat (first|refine jS ?_|refine jD ?_|refine jB ?_|refine jI (enc:=encPl) (l:=ps) (Int.natCast_nonneg k) h ?_)
  generalize at' ps (k:Int)=L at *
  generalize urU b ps k=U at *
  unfold encPl
  have hdg:=hdg k (by omega)
  have htl:=tname_len (n:=k) (by omega)
  have hil:(Lib.itoa (k:Int)).length≤11:=by unfold tname at htl;simp at htl;omega
  have hCe:((U++[116])++Lib.itoa (k:Int))++[58,10]=U++ltx [tlab k]:=by unfold tlab tname;simp [ltx]
  have hCl:(U++ltx [tlab k]).length≤9000:=by rw [←hCe];simp only [List.length_append,List.length_cons,List.length_nil];omega
  have hDd:=plan_dd hpl h8
  have hgo:∀ d∈L,0≤d.at_∧d.at_≤7:=fun d hd=>by
   obtain ⟨q,hq,rfl⟩:=List.getElem_of_mem hd
   unfold planB at hpl
   rw [Bool.and_eq_true] at hpl
   have:=mayD_iff.1 (okD_iff.1 (goB_iff.1 hpl.1 q hq)).1
   rw [at_nat L q hq] at this
   exact this.2.1
  have hDl:=hDl (U++ltx [tlab k]) L hDd
  have hDs:=hDs (U++ltx [tlab k]) L
  have hD0:=urD_0 ps.length (U++ltx [tlab k]) L
  repeat (first|refine jS ?_|refine jD ?_|refine jB ?_)
  refine jo rfl rfl (cat_str (a:=U) (b:=[116]) rfl rfl (by simp only [List.length_cons,List.length_nil];omega)) rfl rfl ?_
  repeat (first|refine jS ?_|refine jD ?_|refine jB ?_|refine jV hdg ?_)
  refine jo rfl rfl (cat_str (a:=U++[116]) (b:=Lib.itoa k) rfl rfl (by simp only [List.length_append,List.length_cons,List.length_nil];omega)) rfl rfl ?_
  repeat (first|refine jS ?_|refine jD ?_|refine jB ?_)
  refine jo rfl rfl (cat_str (a:=(U++[116])++Lib.itoa k) (b:=[58,10]) rfl rfl (by simp only [List.length_append,List.length_cons,List.length_nil];omega)) rfl rfl ?_
  rw [hCe]
  generalize U++ltx [tlab k]=C at *
  clear hCe
  repeat (first|refine jS ?_|refine jD ?_|refine jB ?_)
  refine jloop 0 (fun j:Nat=>j≤L.length) [1,5,13,14,15,26,27,28] (fun j=>[.sl (ps.map encPl),sv (urD ps.length C L j),.sl (ps.map encPl),.v (.int .i64 ((ps.map encPl).length:Int)),.v (.int .i64 (k:Int)),.sl (L.map encDd),.v (.int .i64 ((L.map encDd).length:Int)),.v (.int .i64 (j:Int))])
   (fun j=>[]) (fun j=>L.length-j) 0 (jbl hβ) (Nat.zero_le _) (by rw [hD0];rfl) rfl (fun j hj=>?_)
  repeat (first|refine jS ?_|refine jD ?_|refine jB ?_)
  refine jc rfl rfl rfl (fun h=>?_) (fun h=>?_)
  ·have h:=of_decide_eq_true h
   rw [List.length_map] at h
   have hj2:j < L.length:=by omega
   have hjx:IntKind.i64.wrap ((j:Int)+1)=((j+1:Nat):Int):=idx_next hj2 (by omega)
   have hdm:=at_mem hj2
   have hDl:=hDl j
   have hDs:=hDs j hj2
   have hB:=hDd _ hdm
   have hA:=hgo _ hdm
   have hli:=hli (at' L (j:Int)) (4+(ps.length:Int)+(at' L (j:Int)).at_) hB.val hB.cell
   have hll:=ddl_len hB
   have w1:IntKind.i64.wrap (4+(((ps.map encPl).length:Nat):Int))=4+(ps.length:Int):=by rw [List.length_map];exact wrap_id (by omega) (by omega)
   have w2:IntKind.i64.wrap (4+(ps.length:Int)+(at' L (j:Int)).at_)=4+(ps.length:Int)+(at' L (j:Int)).at_:=wrap_id (by omega) (by omega)
   repeat (first|refine jS ?_|refine jD ?_|refine jB ?_|refine jI (enc:=encDd) (l:=L) (Int.natCast_nonneg j) h ?_)
   rw [w1]
   generalize at' L (j:Int)=d at *
   generalize urD ps.length C L j=D at *
   generalize hD2:urD ps.length C L (j+1)=D2 at *
   unfold encDd at hli
   repeat (first|refine jS ?_|refine jD ?_|refine jB ?_)
   rw [w2]
   repeat (first|refine jS ?_|refine jD ?_|refine jB ?_|refine jV hli ?_)
   refine jo rfl rfl (cat_str (a:=D) (b:=ltx (ddLn d (4+(ps.length:Int)+d.at_))) rfl rfl (by omega)) rfl rfl ?_
   rw [←hDs]
   repeat (first|refine jS ?_|refine jD ?_|refine jB ?_)
   refine jnext (j+1) hj2 (by omega) rfl rfl rfl ?_ rfl
   rw [hjx,hD2]<;>rfl
  ·have h:=of_decide_eq_false h
   rw [List.length_map] at h
   have:j=L.length:=by omega
   subst this
   have hDl:=hDl L.length
   rw [haltT1_eq] at hsu
   generalize urD ps.length C L L.length=D at *
   generalize hU2:urU b ps (k+1)=U2 at *
   repeat (first|refine jS ?_|refine jD ?_|refine jB ?_)
   refine jo rfl rfl (cat_str (a:=D) (b:=haltT1) rfl rfl (Nat.le_trans (Nat.add_le_add (show D.length≤20000 by omega) (show haltT1.length≤10 by decide)) (by decide))) rfl rfl ?_
   rw [←hsu]
   repeat (first|refine jS ?_|refine jD ?_|refine jB ?_)
   refine jnext (k+1) hk2 (by omega) rfl rfl rfl ?_ rfl
   rw [hidx,hU2]<;>rfl
 ·have h:=of_decide_eq_false h
  rw [List.length_map] at h
  have:k=ps.length:=by omega
  subst this
  repeat (first|refine jS ?_|refine jD ?_|refine jB ?_)
  exact jR
theorem ruworld_ok (f:Int) (ps:List (List Dd)) (d:Int) (hW:plWhy f ps=0):ACalls Tryz.prog 36 [iv f,.sl (ps.map encPl),iv d] [] (one (encWd (urO f d ps)) []):=by
 have hPl:=why_pl hW
 obtain ⟨⟨t1,t8⟩,_,_,_⟩:=plw_ok hW
 have hpr:=ur_parse (fb f) hPl
 have hlen:=ur_len (fb f) hPl
 have hwh:=ur_there (fb f) hPl
 rw [show ltx (urLn (fb f) ps)=urS (fb f) ps from rfl] at hpr hlen
 have h1:=ruprog_ok f ps hW
 have hp0:(rparse (urS (fb f) ps)).2.2=0:=by rw [hpr]
 obtain ⟨z1,z2⟩:=rst_eq hp0 (names ps.length)
 obtain ⟨y1,y2,y3,y4,y5⟩:=urM_facts ps.length (by omega) t1
 have h2:=rmnew_ok (12+ps.length) (by omega)
 have h3:=rulay_ok ⟨List.replicate (12+ps.length) 0,List.replicate (12+ps.length) 0⟩ 1 ps.length y5 (inn_iff.2 ⟨by omega,by omega⟩)
 rw [y1] at h3
 have h5:=rmark_ok (urM0 ps.length) ((4+ps.length:Nat):Int) 8 1 y4 (.inl rfl)
 rw [y2] at h5
 have h4:=rnames_ok ps.length (by omega)
 have h6:=rworld_ok (urS (fb f) ps) (names ps.length) (urM ps.length) d (by omega) (by rw [names_len];omega) (names_sz (by omega)) (z2.1 hwh)
 rw [hpr] at h6
 have w1:IntKind.i64.wrap (12+(((ps.map encPl).length:Nat):Int))=((12+ps.length:Nat):Int):=by rw [List.length_map,wrap_id (by omega) (by omega)];omega
 have w2:IntKind.i64.wrap (4+(((ps.map encPl).length:Nat):Int))=((4+ps.length:Nat):Int):=by rw [List.length_map,wrap_id (by omega) (by omega)];omega
 have hlm:(((ps.map encPl).length:Nat):Int)=(ps.length:Int):=by rw [List.length_map]
 rw [←hlm] at h3 h4
 rw [show newOk (urCode (fb f) ps) (rst (urS (fb f) ps) (names ps.length)) (urM ps.length) d=urO f d ps from rfl] at h6
 generalize urO f d ps=w at *
 generalize urS (fb f) ps=T at *
 generalize urM0 ps.length=m0 at *
 generalize urM ps.length=m at *
 clear hwh z1 z2 hpr hp0 y1 y2 y3 y4 y5 hlm
 unfold encWd wCells encMem mCells ivs at *
 refine jC Tryz.func36 Tryz.ntmps36 (fun w0 β0 ext hβ=>?_)
 repeat (first|refine jS ?_|refine jD ?_|refine jB ?_)
 rw [w1]
 repeat (first|refine jS ?_|refine jD ?_|refine jB ?_|refine jV h2 ?_|refine jV h3 ?_)
 rw [w2]
 repeat (first|refine jS ?_|refine jD ?_|refine jB ?_|refine jV h5 ?_)
 repeat (first|refine jS ?_|refine jD ?_|refine jB ?_|refine jV h1 ?_|refine jV h4 ?_|refine jV h6 ?_)
 exact jR
end Go.AL
end
section
set_option maxRecDepth 100000
namespace Go.AL
open Go Go.Proofs
attribute [local irreducible] J
def rows10 (ps:List (List Dd)):List (List Dd):=(ps.take 10).map fun l=>l.take 10
theorem urows_ok (ps:List (List Dd)):ACalls Tryz.prog 28 [.sl (ps.map encPl)] [] (one (.sl ((rows10 ps).map encPl)) []):=by
 have m1:(if (10:Int) < (((ps.map encPl).length:Nat):Int) then (10:Int) else (((ps.map encPl).length:Nat):Int))=((min ps.length 10:Nat):Int):=by rw [List.length_map];split<;>omega
 have hl:(ps.take 10).length≤10:=by rw [List.length_take];omega
 unfold rows10
 refine jC Tryz.func28 Tryz.ntmps28 (fun w0 β0 ext hβ=>?_)
 repeat (first|refine jad 3 119 1 rfl rfl rfl rfl ?_|refine jS ?_|refine jD ?_|refine jB ?_)
 refine jo rfl rfl (cut_take 10 rfl rfl rfl m1 rfl rfl rfl (fun _=>⟨rfl,rfl⟩)) rfl rfl ?_
 repeat (first|refine jS ?_|refine jD ?_|refine jB ?_)
 generalize ps.take 10=t at *
 refine jloopI (fun q:Nat=>q≤t.length) [3,10,11,12] (fun q=>[.arr 0 (q+1),.sl (t.map encPl),.v (.int .i64 ((t.map encPl).length:Int)),.v (.int .i64 (q:Int))])
  (fun q=>[.arr (q+1) 119 1 (((t.take q).map fun l=>l.take 10).map encPl)]) (fun q=>t.length-q) 0 (Nat.zero_le _) rfl rfl (fun q hq=>?_)
 repeat (first|refine jS ?_|refine jD ?_|refine jB ?_)
 refine jc rfl rfl rfl (fun h=>?_) (fun h=>?_)
 ·have h:=of_decide_eq_true h
  rw [List.length_map] at h
  have hq2:q < t.length:=by omega
  have hidx:IntKind.i64.wrap ((q:Int)+1)=((q+1:Nat):Int):=idx_next hq2 (by omega)
  have htk:(t.take q).map (fun l=>l.take 10)++[(at' t (q:Int)).take 10]=(t.take (q+1)).map fun l=>l.take 10:=by rw [at_nat t q hq2,List.take_succ_eq_append_getElem hq2,List.map_append];rfl
  have hln:((t.take q).map fun l=>l.take 10).length≤10:=by rw [List.length_map,List.length_take];omega
  repeat (first|refine jS ?_|refine jD ?_|refine jB ?_|refine jI (enc:=encPl) (l:=t) (Int.natCast_nonneg q) h ?_)
  generalize at' t (q:Int)=L at *
  have m2:(if (10:Int) < (((L.map encDd).length:Nat):Int) then (10:Int) else (((L.map encDd).length:Nat):Int))=((min L.length 10:Nat):Int):=by rw [List.length_map];split<;>omega
  refine jo rfl rfl (cut_take (enc:=encDd) (l:=L) 10 rfl rfl rfl m2 rfl rfl rfl (fun _=>⟨rfl,rfl⟩)) rfl rfl ?_
  repeat (first|refine jS ?_|refine jD ?_|refine jB ?_)
  refine jo rfl rfl (append_enc (enc:=encPl) (l:=(t.take q).map fun l=>l.take 10) (L.take 10) rfl rfl rfl rfl rfl rfl rfl rfl rfl rfl (fun x=>⟨rfl,rfl⟩) rfl (by omega) rfl rfl) rfl rfl ?_
  rw [htk]
  repeat (first|refine jS ?_|refine jD ?_|refine jB ?_)
  refine jnextI (q+1) hq2 ?_ rfl (by omega)
  show some _=some _
  rw [hidx]
 ·have h:=of_decide_eq_false h
  rw [List.length_map] at h
  have:q=t.length:=by omega
  subst this
  rw [List.take_length]
  refine jpub 3 rfl rfl rfl rfl ?_
  repeat (first|refine jS ?_|refine jD ?_|refine jB ?_)
  exact jR
theorem rows10_b (ps:List (List Dd)):(rows10 ps).length≤1000000∧∀ l∈rows10 ps,l.length≤1000000:=by
 unfold rows10
 refine ⟨by rw [List.length_map,List.length_take];omega,fun l hl=>?_⟩
 obtain ⟨x,_,rfl⟩:=List.mem_map.1 hl
 rw [List.length_take];omega
theorem layU_cases (m:Mem) (a many:Int):(∃ n:Int,layU m a many=(mem0,n))∨mRight (layU m a many).1=true:=by
 cases hg:(mRight m&&inn many 1 8) with
 | false=>exact .inl ⟨1,layU_no hg⟩
 | true =>
  by_cases hb:(mMark m a (3+many) 1).2=0
  ·right
   rw [layU_good hg hb]
   rw [Bool.and_eq_true] at hg
   obtain ⟨m1,m8⟩:=inn_iff.1 hg.2
   obtain ⟨k0,k1,K⟩:=mMark_had hg.1 hb
   exact had_right K.right K.fits K.inside (urW many.toNat) (by rw [urW_len];omega)
  ·exact .inl ⟨_,layU_bad hg hb⟩
theorem url_law (g:Gl) (ws ts:List Int) (a many:Int):ACalls Tryz.prog 8 [ivs ws,ivs ts,iv a,iv many] (gls g) (one (bv true) (gls g)):=by
 have m1:∀ l:List Int,(if (170:Int) < (((l.map iv).length:Nat):Int) then (170:Int) else (((l.map iv).length:Nat):Int))=((min l.length 170:Nat):Int):=fun l=>by rw [List.length_map];split<;>omega
 have m2:=m1 ts
 have m1:=m1 ws
 have hw:(ws.take 170).length≤1000000:=by rw [List.length_take];omega
 have ht:(ts.take 170).length≤1000000:=by rw [List.length_take];omega
 unfold ivs gls
 refine jC Tryz.func8 Tryz.ntmps8 (fun w0 β0 ext hβ=>?_)
 repeat (first|refine jS ?_|refine jD ?_|refine jB ?_)
 refine jo rfl rfl (cut_take 170 rfl rfl rfl m1 rfl rfl rfl (fun _=>⟨rfl,rfl⟩)) rfl rfl ?_
 repeat (first|refine jS ?_|refine jD ?_|refine jB ?_)
 refine jo rfl rfl (cut_take 170 rfl rfl rfl m2 rfl rfl rfl (fun _=>⟨rfl,rfl⟩)) rfl rfl ?_
 repeat (first|refine jS ?_|refine jD ?_|refine jB ?_)
 generalize ws.take 170=W at *
 generalize ts.take 170=T at *
 have h1:=ulay_ok ⟨W,T⟩ a many hw ht
 have h2:=rmright_ok ⟨W,T⟩ hw ht
 have h3:=uralive_ok g
 have h6:=rsame_mem mem0 (by decide) (by decide)
 unfold encMem mCells ivs at h6
 replace h6:=h6.argw (args':=[_,.agg [.slf [],.slf []]]) (fun c us h=>relL_cons (fun u h=>h) (relL_cons (agg_weak (relL_cons (fun u h=>sl_weak h) (relL_cons (fun u h=>sl_weak h) (fun us h=>h)))) (fun us h=>h)) us h)
 cases hR:mRight ⟨W,T⟩ with
 | false =>
  rw [layU_no (by rw [hR];rfl)] at h1
  rw [hR] at h2
  unfold gls at *
  unfold encMem mCells ivs at *
  repeat (first|refine jS ?_|refine jD ?_|refine jB ?_|refine jV h1 ?_|refine jV h2 ?_)
  refine jBb [0,1,2,3] h3 ?_
  repeat (first|refine jS ?_|refine jD ?_|refine jB ?_|refine jV h6 ?_)
  exact jR
 | true =>
  rw [hR] at h2
  by_cases c1:many < 1
  ·rw [layU_no (by rw [show inn many 1 8=false from by cases e:inn many 1 8 with
    | false=>rfl
    | true=>have:=(inn_iff.1 e).1;omega,Bool.and_false])] at h1
   unfold gls at *
   unfold encMem mCells ivs at *
   repeat (first|refine jS ?_|refine jD ?_|refine jB ?_|refine jV h1 ?_|refine jV h2 ?_)
   rw [show decide (many < 1)=true from decide_eq_true c1]
   repeat (first|refine jS ?_|refine jD ?_|refine jB ?_)
   refine jBb [0,1,2,3] h3 ?_
   repeat (first|refine jS ?_|refine jD ?_|refine jB ?_|refine jV h6 ?_)
   exact jR
  by_cases c2:many > 8
  ·rw [layU_no (by rw [show inn many 1 8=false from by cases e:inn many 1 8 with
    | false=>rfl
    | true=>have:=(inn_iff.1 e).2;omega,Bool.and_false])] at h1
   unfold gls at *
   unfold encMem mCells ivs at *
   repeat (first|refine jS ?_|refine jD ?_|refine jB ?_|refine jV h1 ?_|refine jV h2 ?_)
   rw [show decide (many < 1)=false from decide_eq_false c1]
   repeat (first|refine jS ?_|refine jD ?_|refine jB ?_)
   rw [show decide (many > 8)=true from decide_eq_true c2]
   repeat (first|refine jS ?_|refine jD ?_|refine jB ?_)
   refine jBb [0,1,2,3] h3 ?_
   repeat (first|refine jS ?_|refine jD ?_|refine jB ?_|refine jV h6 ?_)
   exact jR
  have h5:=rulay_ok ⟨W,T⟩ a many hR (inn_iff.2 ⟨by omega,by omega⟩)
  have h7:ACalls Tryz.prog 14 [encMem (layU ⟨W,T⟩ a many).1,encMem (layU ⟨W,T⟩ a many).1] [] (one (bv true) []):=by
   rcases layU_cases ⟨W,T⟩ a many with ⟨n,e⟩|e
   ·rw [e];exact rsame_mem mem0 (by decide) (by decide)
   ·obtain ⟨_,q2,q3,_⟩:=(mRight_iff _).1 e
    exact rsame_mem _ (by omega) (by omega)
  clear h6
  generalize layU ⟨W,T⟩ a many=r at *
  have hee:(r.2 == r.2)=true:=by simp
  unfold gls at *
  unfold encMem mCells ivs at *
  repeat (first|refine jS ?_|refine jD ?_|refine jB ?_|refine jV h1 ?_|refine jV h2 ?_)
  rw [show decide (many < 1)=false from decide_eq_false c1]
  repeat (first|refine jS ?_|refine jD ?_|refine jB ?_)
  rw [show decide (many > 8)=false from decide_eq_false c2]
  repeat (first|refine jS ?_|refine jD ?_|refine jB ?_|refine jV h5 ?_)
  refine jBb [0,1,2,3] h3 ?_
  repeat (first|refine jS ?_|refine jD ?_|refine jB ?_)
  rw [hee]
  repeat (first|refine jS ?_|refine jD ?_|refine jB ?_|refine jV h7 ?_)
  exact jR
set_option maxHeartbeats 4000000 in
theorem urm_law (g:Gl) (f:Int) (ps:List (List Dd)) (d:Int):ACalls Tryz.prog 9 [iv f,.sl (ps.map encPl),iv d] (gls g) (one (bv true) (gls g)):=by
 have h0:=urows_ok ps
 obtain ⟨b1,b2⟩:=rows10_b ps
 generalize rows10 ps=t at *
 have htx:=utext_ok f
 have h1:=uprog_ok g f t b1 b2
 have h2:=uworld_ok g f t d b1 b2
 have h3:=uralive_ok g
 have h4:=rwhy_ok f t b1 b2
 have h5:=rsame_ok wd0 wd0_sz (by decide)
 unfold encWd wCells ivs at h5
 replace h5:=h5.argw (args':=[_,.agg [.slf [],.slf [],.slf [],iv 0,.slf [],.slf [],.slf []]]) (fun c us h=>relL_cons (fun u h=>h) (relL_cons (agg_weak (relL_cons (fun u h=>sl_weak h) (relL_cons (fun u h=>sl_weak h) (relL_cons (fun u h=>sl_weak h) (relL_cons (fun u h=>h) (relL_cons (fun u h=>sl_weak h) (relL_cons (fun u h=>sl_weak h) (relL_cons (fun u h=>sl_weak h) (fun us h=>h))))))))) (fun us h=>h)) us h)
 by_cases hW:plWhy f t=0
 ·obtain ⟨_,_,⟨f0,f1⟩,_⟩:=plw_ok hW
  have e0:urTx f=(ltx (urC (fb f)),0):=by unfold urTx;rw [inn_iff.2 ⟨f0,f1⟩];rfl
  have e1:urPg f t=(urS (fb f) t,0):=by unfold urPg;rw [decide_eq_true hW];rfl
  have h6:=rutext_ok f (by omega)
  have h7:=ruprog_ok f t hW
  have c0:decide (f < 0)=false:=decide_eq_false (by omega)
  have c1:decide (f > 1)=false:=decide_eq_false (by omega)
  rw [e0] at htx
  rw [e1] at h1
  rw [hW] at h4
  have hcm:∀ (w:Wd) (n:Int),urWd f d t=(w,n)→ACalls Tryz.prog 31 [iv f,.sl (t.map encPl),iv d] (gls g) (one (.tup [encWd w,iv n]) (gls g)):=fun w n e=>by rw [e] at h2;exact h2
  clear h2 e0 e1
  by_cases d0:d < 0
  ·have h2:=hcm _ _ (urWd_depth hW (by cases hi:inn d 0 8 with
    | false=>rfl
    | true=>have:=(inn_iff.1 hi).1;omega))
   clear hcm
   generalize urS (fb f) t=P1 at *
   generalize ltx (urC (fb f))=T1 at *
   unfold gls at *
   unfold encWd wCells ivs at *
   refine jC Tryz.func9 Tryz.ntmps9 (fun w0 β0 ext hβ=>?_)
   repeat (first|refine jS ?_|refine jD ?_|refine jB ?_|refine jV h0 ?_|refine jV htx ?_)
   refine jBb [0,1,2,3] h1 ?_
   repeat (first|refine jS ?_|refine jD ?_|refine jB ?_)
   refine jBb [0,1,2,3] h2 ?_
   repeat (first|refine jS ?_|refine jD ?_|refine jB ?_)
   refine jBb [0,1,2,3] h3 ?_
   repeat (first|refine jS ?_|refine jD ?_|refine jB ?_)
   rw [c0]
   repeat (first|refine jS ?_|refine jD ?_|refine jB ?_)
   rw [c1]
   repeat (first|refine jo rfl rfl (neq_same rfl rfl rfl) rfl rfl ?_|refine jS ?_|refine jD ?_|refine jB ?_|refine jV h4 ?_|refine jV h6 ?_|refine jV h7 ?_)
   rw [show decide (d < 0)=true from decide_eq_true d0]
   repeat (first|refine jS ?_|refine jD ?_|refine jB ?_|refine jV h5 ?_)
   exact jR
  by_cases d8:d > 8
  ·have h2:=hcm _ _ (urWd_depth hW (by cases hi:inn d 0 8 with
    | false=>rfl
    | true=>have:=(inn_iff.1 hi).2;omega))
   clear hcm
   generalize urS (fb f) t=P1 at *
   generalize ltx (urC (fb f))=T1 at *
   unfold gls at *
   unfold encWd wCells ivs at *
   refine jC Tryz.func9 Tryz.ntmps9 (fun w0 β0 ext hβ=>?_)
   repeat (first|refine jS ?_|refine jD ?_|refine jB ?_|refine jV h0 ?_|refine jV htx ?_)
   refine jBb [0,1,2,3] h1 ?_
   repeat (first|refine jS ?_|refine jD ?_|refine jB ?_)
   refine jBb [0,1,2,3] h2 ?_
   repeat (first|refine jS ?_|refine jD ?_|refine jB ?_)
   refine jBb [0,1,2,3] h3 ?_
   repeat (first|refine jS ?_|refine jD ?_|refine jB ?_)
   rw [c0]
   repeat (first|refine jS ?_|refine jD ?_|refine jB ?_)
   rw [c1]
   repeat (first|refine jo rfl rfl (neq_same rfl rfl rfl) rfl rfl ?_|refine jS ?_|refine jD ?_|refine jB ?_|refine jV h4 ?_|refine jV h6 ?_|refine jV h7 ?_)
   rw [show decide (d < 0)=false from decide_eq_false d0]
   repeat (first|refine jS ?_|refine jD ?_|refine jB ?_)
   rw [show decide (d > 8)=true from decide_eq_true d8]
   repeat (first|refine jS ?_|refine jD ?_|refine jB ?_|refine jV h5 ?_)
   exact jR
  have hd:inn d 0 8=true:=inn_iff.2 ⟨by omega,by omega⟩
  obtain ⟨e2,e3⟩:=urWd_good hW hd
  have h2:=hcm _ _ e2
  have h8:=ruworld_ok f t d hW
  have h9:=rsame_ok (urO f d t) e3.size (by show (0:Nat)≤1000000;decide)
  generalize urO f d t=w at *
  generalize urS (fb f) t=P1 at *
  generalize ltx (urC (fb f))=T1 at *
  clear hcm e2 e3 h5
  unfold gls at *
  unfold encWd wCells ivs at *
  refine jC Tryz.func9 Tryz.ntmps9 (fun w0 β0 ext hβ=>?_)
  repeat (first|refine jS ?_|refine jD ?_|refine jB ?_|refine jV h0 ?_|refine jV htx ?_)
  refine jBb [0,1,2,3] h1 ?_
  repeat (first|refine jS ?_|refine jD ?_|refine jB ?_)
  refine jBb [0,1,2,3] h2 ?_
  repeat (first|refine jS ?_|refine jD ?_|refine jB ?_)
  refine jBb [0,1,2,3] h3 ?_
  repeat (first|refine jS ?_|refine jD ?_|refine jB ?_)
  rw [c0]
  repeat (first|refine jS ?_|refine jD ?_|refine jB ?_)
  rw [c1]
  repeat (first|refine jo rfl rfl (neq_same rfl rfl rfl) rfl rfl ?_|refine jS ?_|refine jD ?_|refine jB ?_|refine jV h4 ?_|refine jV h6 ?_|refine jV h7 ?_)
  rw [show decide (d < 0)=false from decide_eq_false d0]
  repeat (first|refine jS ?_|refine jD ?_|refine jB ?_)
  rw [show decide (d > 8)=false from decide_eq_false d8]
  repeat (first|refine jS ?_|refine jD ?_|refine jB ?_|refine jV h8 ?_|refine jV h9 ?_)
  exact jR
 ·have e1:urPg f t=([],plWhy f t):=urPg_no rfl hW
  rw [e1] at h1
  rw [urWd_no hW] at h2
  have hne:(plWhy f t != 0)=true:=by rw [bne_iff_ne];exact hW
  have hee:(plWhy f t == plWhy f t)=true:=by simp
  generalize plWhy f t=n at *
  by_cases f0:f < 0
  ·have e0:urTx f=([],1):=by
    unfold urTx
    rw [show inn f 0 1=false from by cases e:inn f 0 1 with
     | false=>rfl
     | true=>have:=(inn_iff.1 e).1;omega];rfl
   rw [e0] at htx
   unfold gls at *
   unfold encWd wCells ivs at *
   refine jC Tryz.func9 Tryz.ntmps9 (fun w0 β0 ext hβ=>?_)
   repeat (first|refine jS ?_|refine jD ?_|refine jB ?_|refine jV h0 ?_|refine jV htx ?_)
   refine jBb [0,1,2,3] h1 ?_
   repeat (first|refine jS ?_|refine jD ?_|refine jB ?_)
   refine jBb [0,1,2,3] h2 ?_
   repeat (first|refine jS ?_|refine jD ?_|refine jB ?_)
   refine jBb [0,1,2,3] h3 ?_
   repeat (first|refine jS ?_|refine jD ?_|refine jB ?_)
   rw [show decide (f < 0)=true from decide_eq_true f0]
   repeat (first|refine jo rfl rfl (neq_same rfl rfl rfl) rfl rfl ?_|refine jS ?_|refine jD ?_|refine jB ?_|refine jV h4 ?_)
   rw [hne]
   repeat (first|refine jS ?_|refine jD ?_|refine jB ?_)
   rw [hee]
   repeat (first|refine jS ?_|refine jD ?_|refine jB ?_)
   rw [hee]
   repeat (first|refine jo rfl rfl (eq_same rfl rfl rfl) rfl rfl ?_|refine jS ?_|refine jD ?_|refine jB ?_|refine jV h5 ?_)
   exact jR
  by_cases f1:f > 1
  ·have e0:urTx f=([],1):=by
    unfold urTx
    rw [show inn f 0 1=false from by cases e:inn f 0 1 with
     | false=>rfl
     | true=>have:=(inn_iff.1 e).2;omega];rfl
   rw [e0] at htx
   unfold gls at *
   unfold encWd wCells ivs at *
   refine jC Tryz.func9 Tryz.ntmps9 (fun w0 β0 ext hβ=>?_)
   repeat (first|refine jS ?_|refine jD ?_|refine jB ?_|refine jV h0 ?_|refine jV htx ?_)
   refine jBb [0,1,2,3] h1 ?_
   repeat (first|refine jS ?_|refine jD ?_|refine jB ?_)
   refine jBb [0,1,2,3] h2 ?_
   repeat (first|refine jS ?_|refine jD ?_|refine jB ?_)
   refine jBb [0,1,2,3] h3 ?_
   repeat (first|refine jS ?_|refine jD ?_|refine jB ?_)
   rw [show decide (f < 0)=false from decide_eq_false f0]
   repeat (first|refine jS ?_|refine jD ?_|refine jB ?_)
   rw [show decide (f > 1)=true from decide_eq_true f1]
   repeat (first|refine jo rfl rfl (neq_same rfl rfl rfl) rfl rfl ?_|refine jS ?_|refine jD ?_|refine jB ?_|refine jV h4 ?_)
   rw [hne]
   repeat (first|refine jS ?_|refine jD ?_|refine jB ?_)
   rw [hee]
   repeat (first|refine jS ?_|refine jD ?_|refine jB ?_)
   rw [hee]
   repeat (first|refine jo rfl rfl (eq_same rfl rfl rfl) rfl rfl ?_|refine jS ?_|refine jD ?_|refine jB ?_|refine jV h5 ?_)
   exact jR
  have e0:urTx f=(ltx (urC (fb f)),0):=by unfold urTx;rw [inn_iff.2 ⟨by omega,by omega⟩];rfl
  have h6:=rutext_ok f (by omega)
  rw [e0] at htx
  generalize ltx (urC (fb f))=T1 at *
  unfold gls at *
  unfold encWd wCells ivs at *
  refine jC Tryz.func9 Tryz.ntmps9 (fun w0 β0 ext hβ=>?_)
  repeat (first|refine jS ?_|refine jD ?_|refine jB ?_|refine jV h0 ?_|refine jV htx ?_)
  refine jBb [0,1,2,3] h1 ?_
  repeat (first|refine jS ?_|refine jD ?_|refine jB ?_)
  refine jBb [0,1,2,3] h2 ?_
  repeat (first|refine jS ?_|refine jD ?_|refine jB ?_)
  refine jBb [0,1,2,3] h3 ?_
  repeat (first|refine jS ?_|refine jD ?_|refine jB ?_)
  rw [show decide (f < 0)=false from decide_eq_false f0]
  repeat (first|refine jS ?_|refine jD ?_|refine jB ?_)
  rw [show decide (f > 1)=false from decide_eq_false f1]
  repeat (first|refine jo rfl rfl (neq_same rfl rfl rfl) rfl rfl ?_|refine jS ?_|refine jD ?_|refine jB ?_|refine jV h4 ?_|refine jV h6 ?_)
  rw [hne]
  repeat (first|refine jS ?_|refine jD ?_|refine jB ?_)
  rw [hee]
  repeat (first|refine jS ?_|refine jD ?_|refine jB ?_)
  rw [hee]
  repeat (first|refine jo rfl rfl (eq_same rfl rfl rfl) rfl rfl ?_|refine jS ?_|refine jD ?_|refine jB ?_|refine jV h5 ?_)
  exact jR
end Go.AL
end
section
set_option maxRecDepth 100000
namespace Go.Proofs.YteefnlbapebamaaGreatDoor
open Go Go.AL Go.ChangeShapes Go.WideShapes Go.ChangeAt Go.RowKit
theorem own:ownKnob Tryz.prog.godebug=none:=by kernel_rfl
theorem kids:Kids Tryz.prog (· < Tryz.prog.types.size):=kids_rows (by kernel_rfl) (by kernel_rfl)
theorem full:∀ t e,t < Tryz.prog.types.size→Tryz.prog.underlying t=some (.slice e)→0 < Tryz.prog.cellsOf e:=slices_full_of _ (by kernel_rfl)
theorem g_pow:Tryz.prog.globalNamed "internal/strconv.uint64pow10" = some 1:=by kernel_rfl
theorem g_syn:Tryz.prog.globalNamed "strconv.ErrSyntax" = some 5:=by kernel_rfl
theorem g_ran:Tryz.prog.globalNamed "strconv.ErrRange" = some 6:=by kernel_rfl
def glx (g:Gl):List (Nat × Obj):=[(1,.cells powV g.t1 g.f1),(5,.cells #[.iface g.e2 g.p2] g.t2 g.f2),(6,.cells #[.iface g.e3 g.p3] g.t3 g.f3),(4,.cells #[.int .i64 g.m] g.t0 g.f0)]
theorem var_heap {W:World} {n:String} {g:Nat} {cs:Array Value} (hg:Tryz.prog.globalNamed n=some g) (hv:W.var? Tryz.prog n=some cs):∃ t f,W.heap[g]? = some (.cells cs t f):=by
 unfold World.var? at hv
 rw [hg] at hv
 simp only [Option.bind_some] at hv
 split at hv
 ·rename_i c t f h
  injection hv with hv
  exact ⟨t,f,by rw [h,hv]⟩
 ·cases hv
theorem iface_head {W:World} {n nm:String} {x:DataW Unit} {r:List (String × DataW Unit)} {g:Nat} {t:TypeId} {ms:Array (String × TypeId)} (h:laidMet Tryz.prog ((n,.iface nm x)::r) W)
  (hg:Tryz.prog.globalNamed n=some g) (ht:(Tryz.prog.globals[g]?).map (·.type)=some t) (hu:Tryz.prog.underlying t=some (.interface ms)):∃ e p,W.var? Tryz.prog n=some #[.iface e p]:=by
 obtain ⟨ps,⟨g0,t0,cs0,f0,p0,q0,hg0,ht0,hv0,hd0,_,_⟩,_,_⟩:=h
 obtain rfl:=Option.some.inj (hg.symm.trans hg0)
 obtain rfl:=Option.some.inj (ht.symm.trans ht0)
 obtain ⟨_,u,v,e,_,_⟩:=iface_of_trod hu hd0
 refine ⟨u,v,?_⟩
 rw [hv0]
 congr 1
 apply Array.ext'
 simpa using e
def laidL:List (String × DataW Unit):=[("math/bits.deBruijn32tab",Rows.laid_math_bits_deBruijn32tab),("math/bits.deBruijn64tab",Rows.laid_math_bits_deBruijn64tab),("internal/strconv.uint64pow10",Rows.laid_internal_strconv_uint64pow10),("unicode/utf8.acceptRanges",Rows.laid_unicode_utf8_acceptRanges),("errors.errorType",Rows.laid_errors_errorType),("strconv.ErrRange",Rows.laid_strconv_ErrRange),("strconv.ErrSyntax",Rows.laid_strconv_ErrSyntax),("unicode/utf8.first",Rows.laid_unicode_utf8_first)]
def plainL:List (String × DataW Unit):=[("math/bits.deBruijn32tab",Rows.laid_math_bits_deBruijn32tab),("math/bits.deBruijn64tab",Rows.laid_math_bits_deBruijn64tab),("internal/strconv.uint64pow10",Rows.laid_internal_strconv_uint64pow10),("unicode/utf8.acceptRanges",Rows.laid_unicode_utf8_acceptRanges),("strconv.ErrRange",Rows.laid_strconv_ErrRange),("strconv.ErrSyntax",Rows.laid_strconv_ErrSyntax),("unicode/utf8.first",Rows.laid_unicode_utf8_first)]
theorem plain_eq:(laidL.filter fun x=>x.2.handleName?.isNone)=plainL:=by kernel_rfl
theorem laid_plain {W:World} (h:laidMetH Tryz.prog laidL W):laidMet Tryz.prog plainL W:=by
 have h1:=(laidMetH_iff.1 h).1
 rwa [plain_eq] at h1
noncomputable def errW (os:Os):World :=
 let w0:=World.holding Tryz.prog os ⟨#[],#[],[]⟩
 { w0 with heap:=w0.heap.modify 0 fun
   | .cells _ t frozen=>.cells #[.iface 261 (.agg #[typeHandle Tryz.prog 88])] t frozen
   | o=>o }
noncomputable def laidW (os:Os):World:=(errW os).layVars Tryz.prog plainL
theorem laidW_os (os:Os):(laidW os).os=os:=World.layVars_os _ _ _
theorem laidW_met (os:Os) (args:Array Value):laidMetH Tryz.prog laidL ((laidW os).forCall (fun _ _=>0) ⟨#[],args,[]⟩).memory:=by
 refine laidMetH_of_parts ?_ (by kernel_rfl)
 rw [plain_eq]
 have e1:(plainL.filter fun x=>(plainL.map (·.1)).contains x.1)=plainL:=List.filter_eq_self.2 fun x hx=>List.contains_iff_mem.2 (List.mem_map.2 ⟨x,hx,rfl⟩)
 have e2:(plainL.filter fun x=>!(plainL.map (·.1)).contains x.1)=[]:=List.filter_eq_nil_iff.2 fun x hx=>by rw [List.contains_iff_mem.2 (List.mem_map.2 ⟨x,hx,rfl⟩)];simp
 have h:laidMet Tryz.prog plainL (laidW os):=laidMet_layVars (w0:=errW os) (plainL.map (·.1)) [] (by rw [e1];rfl) (by rw [e1];kernel_rfl) (by rw [e1];kernel_rfl) (by rw [e2];exact LaidIn.none)
 exact h.of_heap (by simp [World.memory,World.forCall,Input.heap])
theorem gl_exists {W:World} (hL:laidMetH Tryz.prog laidL W) (hS:W.ShapedOpen Tryz.prog):∃ g:Gl,∀ p∈glx g,W.heap[p.1]? = some p.2∧∀ d,p.2 ≠ .deferred d:=by
 replace hL:=laid_plain hL
 have h3:=hL.tail.tail
 have h5:=hL.tail.tail.tail.tail
 have h6:=hL.tail.tail.tail.tail.tail
 obtain ⟨t1,f1,a1⟩:=var_heap g_pow (Lib.tabIs_of_head (k:=.u64) (zs:=Lib.pow10Tab) (n:=20) (t:=295) (e:=245) g_pow (by kernel_rfl) (by kernel_rfl) (by kernel_rfl) (by kernel_rfl) (by kernel_rfl) h3)
 obtain ⟨e3,p3,b3⟩:=iface_head (t:=88) h5 g_ran (by kernel_rfl) Tryz.underlying88
 obtain ⟨e2,p2,b2⟩:=iface_head (t:=88) h6 g_syn (by kernel_rfl) Tryz.underlying88
 obtain ⟨t3,f3,a3⟩:=var_heap g_ran b3
 obtain ⟨t2,f2,a2⟩:=var_heap g_syn b2
 obtain ⟨m,a0⟩:=shaped_int (g:=4) (t:=3) (zero:=#[.int .i64 0]) (k:=.i64) hS (of_decide_eq_true (by kernel_rfl)) (by kernel_rfl) rfl (by kernel_rfl) (by kernel_rfl) (by kernel_rfl)
 refine ⟨⟨t1,t2,t3,f1,f2,f3,e2,e3,p2,p3,3,(0,0),m⟩,fun p hp=>?_⟩
 simp only [glx,List.mem_cons,List.mem_nil_iff,or_false] at hp
 rcases hp with rfl|rfl|rfl|rfl
 ·exact ⟨a1,fun d h=>by cases h⟩
 ·exact ⟨a2,fun d h=>by cases h⟩
 ·exact ⟨a3,fun d h=>by cases h⟩
 ·exact ⟨a0,fun d h=>by cases h⟩
end Go.Proofs.YteefnlbapebamaaGreatDoor
end
section
set_option maxRecDepth 100000
namespace Go.Proofs.YteefnlbapebamaaGreatDoor
open Go Go.AL Go.ChangeShapes Go.WideShapes Go.ChangeAt Go.RowKit
section
variable {H:Type} {enc:TypeId × Value→H} {W:World} {v:Value} {d:DataW H} {p:List MemPlace}
theorem open_list {α:Type} {encX:α→AVal} {t e:TypeId} {r r':TyRow} (f:List Int→α) (ht:tfind tyTab.tab t=some r') (hd':r'.d = .slice e) (he:tfind tyTab.tab e=some r) (hi:allInt tyTab.tab Tryz.prog.stoodInHeld 100 e=true) (hz:r.size≠0) (h1:aggB r.d=false→r.size=1)
  (hf:∀ ns:List Int,ns.length=r.size→encX (f ns)=rowA (aggB r.d) ns) (hv:∃ a l c,v = .slice a l c) (h:DataW.Trod enc Tryz.prog W 0 (fun _=>true) true t v d p):∃ m:List α,m.length≤maxLen∧Rel (out W) (.sl (m.map encX)) v:=by
 obtain ⟨a,l,c,rfl⟩:=hv
 obtain ⟨n,hn⟩:=h
 obtain ⟨nss,g1,g2,g3⟩:=open_rows (T:=tyTab) (st:=Tryz.prog.stoodInHeld) (n:=100) ht hd' he hi hz h1 hn
 refine ⟨nss.map f,by simpa using g2,?_⟩
 have:(nss.map f).map encX=nss.map (rowA (aggB r.d)):=by
  rw [List.map_map]
  exact List.map_congr_left fun ns hns=>hf ns (g1 ns hns)
 rw [this]
 exact g3
theorem one_ints:∀ {ns:List Int},ns.length=1→∃ a,ns=[a]
 | [a],_=>⟨a,rfl⟩
theorem open_ints (hv:∃ a l c,v = .slice a l c) (h:DataW.Trod enc Tryz.prog W 0 (fun _=>true) true 23 v d p):∃ m:List Int,m.length≤maxLen∧Rel (out W) (ivs m) v :=
 open_list (fun ns=>ns.headD 0) rfl rfl rfl (by kernel_rfl) (by decide) (fun _=>rfl) (fun ns hn=>by obtain ⟨a,rfl⟩:=one_ints hn;rfl) hv h
theorem open_int (hv:∃ n,v = .int .i64 n) (h:DataW.Trod enc Tryz.prog W 0 (fun _=>true) true 3 v d p):∃ n:Int,True∧Rel (out W) (.v (.int .i64 n)) v:=by
 obtain ⟨n,rfl⟩:=hv
 exact ⟨n,trivial,rfl⟩
end
end Go.Proofs.YteefnlbapebamaaGreatDoor
end
section
set_option maxRecDepth 100000
namespace Go.AL
open Go Go.Deep
section
variable {P:Program} [T:TyTab P] {H:Type} {enc:TypeId × Value→H} {w:World} {base:Nat} {sp:Nat→Bool} {hd:Bool}
theorem open_nested {st:TypeId→Bool} {n:Nat} {t e e2:TypeId} {r r' r2:TyRow} {fuel:Nat} {u:Value} {x:DataW H × List MemPlace} (ht:tfind T.tab t=some r') (hd':r'.d = .slice e) (he:tfind T.tab e=some r) (hde:r.d = .slice e2) (hr1:r.size=1)
  (he2:tfind T.tab e2=some r2) (hi:allInt T.tab st n e2=true) (hz:r2.size≠0) (h1:aggB r2.d=false→r2.size=1) (h:DataW.trod enc P w 0 sp hd fuel t [u]=some x) :
  ∃ N:List (List (List Int)),(∀ nss∈N,∀ ns∈nss,ns.length=r2.size)∧N.length≤maxLen∧Rel (out w) (.sl (N.map fun nss=>.sl (nss.map (rowA (aggB r2.d))))) u:=by
 have hu:P.underlying t=some (.slice e):=by rw [ty_und ht,hd']
 rcases open_slice hu h with ⟨h0,_⟩|⟨a,len,cap,m,k,D,Pl,hcs,_,hl,hm,hmm,_,hx⟩
 ·injection h0 with h0
  subst h0
  exact ⟨[],by simp,by simp,none,0,0,rfl,Nat.le_refl _,fun h=>absurd rfl h,trivial⟩
 ·injection hcs with hcs
  subst hcs
  rw [ty_cells he,hr1] at hx
  have hlm:len≤m:=by rw [hmm];split<;>omega
  have each:∀ i,i < len→∃ y:List (List Int) × Value,(∀ ns∈y.1,ns.length=r2.size)∧Rel (out w) (.sl (y.1.map (rowA (aggB r2.d)))) y.2∧w.cells? 0 (a.add (i*1)) 1=some [y.2]:=fun i hi'=>by
   obtain ⟨cs',g1,g2⟩:=hx i (by omega)
   have hl1:cs'.length=1:=(World.cells?_some g1).2.1
   obtain ⟨v,rfl⟩:=List.length_eq_one_iff.1 hl1
   obtain ⟨nss,q1,q2,q3⟩:=open_rows (T:=T) (st:=st) (n:=n) he hde he2 hi hz h1 g2
   exact ⟨(nss,v),q1,q3,g1⟩
  obtain ⟨N,hN⟩:=choose_lt (α:=List (List Int) × Value) (p:=fun i y=>(∀ ns∈y.1,ns.length=r2.size)∧Rel (out w) (.sl (y.1.map (rowA (aggB r2.d)))) y.2∧w.cells? 0 (a.add (i*1)) 1=some [y.2]) each
  have hlen:((List.range len).map fun i=>(N i).1).length=len:=by simp
  have one:∀ i,i < len→w.cell? ((a.add (i*1)).add 0)=some (N i).2:=fun i hi'=>by
   obtain ⟨_,_,g3⟩:=World.cells?_some (hN i hi').2.2
   exact g3 0 (by omega)
  refine ⟨(List.range len).map fun i=>(N i).1,fun nss hns=>?_,by rw [hlen];omega,some a,cap,1,by simp,by simpa using hl,fun hne=>?_,?_⟩
  ·obtain ⟨i,hi',rfl⟩:=List.mem_map.1 hns
   exact (hN i (List.mem_range.1 hi')).1
  ·have hpos:0 < len:=by
    rcases Nat.eq_zero_or_pos len with h0|h0
    ·subst h0;simp at hne
    ·exact h0
   have g4:=one 0 hpos
   have e0:(a.add (0*1)).add 0=a:=by simp [Addr.add]
   rw [e0] at g4
   have hs:=addr_spot g4
   refine ⟨a.block,a.off,by cases a;simp_all,id,?_⟩
   unfold World.cell? at g4
   rw [hs] at g4
   by_cases hlt:a.block < w.heap.size
   ·exact hlt
   ·rw [Array.getElem?_eq_none (by omega)] at g4;simp at g4
  ·refine RelR.of_get fun i y hy=>?_
   have hi':i < len:=by simpa using (List.getElem?_eq_some_iff.1 hy).1
   simp only [List.getElem?_map,List.getElem?_range hi',Option.map_some,Option.some.injEq] at hy
   subst hy
   have g4:=one i hi'
   have hs:a.spot=none:=by
    have p4:=one 0 (by omega)
    have e0:(a.add (0*1)).add 0=a:=by simp [Addr.add]
    rw [e0] at p4;exact addr_spot p4
   have hadd:∀ j,a.add j=⟨a.block,a.off+j,none⟩:=fun j=>by
    unfold Addr.add;split
    ·rename_i hj;subst hj;cases a;simp_all
    ·rfl
   refine ⟨(N i).2,(hN i hi').2.1,?_,fun q hq=>?_⟩
   ·obtain ⟨_,_,_,hv,_⟩:=(hN i hi').2.1
    rw [hv];rfl
   have:q=0:=by omega
   subst this
   rw [add_add,hadd] at g4
   simp only [Nat.zero_add]
   obtain ⟨_,_,_,hv,_⟩:=(hN i hi').2.1
   rw [hv] at g4 ⊢
   exact g4
end
end Go.AL
end
section
set_option maxRecDepth 100000
namespace Go.Proofs.YteefnlbapebamaaGreatDoor
open Go Go.AL Go.ChangeShapes Go.WideShapes Go.ChangeAt Go.RowKit
section
variable {H:Type} {enc:TypeId × Value→H} {W:World} {v:Value} {d:DataW H} {p:List MemPlace}
theorem three_ints:∀ {ns:List Int},ns.length=3→∃ a b c,ns=[a,b,c]
 | [a,b,c],_=>⟨a,b,c,rfl⟩
theorem open_plans (hv:∃ a l c,v = .slice a l c) (h:DataW.Trod enc Tryz.prog W 0 (fun _=>true) true 68 v d p):∃ m:List (List Dd),m.length≤maxLen∧Rel (out W) (.sl (m.map encPl)) v:=by
 obtain ⟨a,l,c,rfl⟩:=hv
 obtain ⟨n,hn⟩:=h
 obtain ⟨N,g1,g2,g3⟩:=open_nested (T:=tyTab) (st:=Tryz.prog.stoodInHeld) (n:=100) (t:=68) (e:=119) (e2:=118) rfl rfl rfl rfl rfl rfl (by kernel_rfl) (by decide) (fun h=>by cases h) hn
 refine ⟨N.map fun nss=>nss.map fun ns=>⟨ns.headD 0,ns.tail.headD 0,ns.tail.tail.headD 0⟩,by simpa using g2,?_⟩
 have:(N.map fun nss=>nss.map fun ns=>(⟨ns.headD 0,ns.tail.headD 0,ns.tail.tail.headD 0⟩:Dd)).map encPl=N.map fun nss=>.sl (nss.map (rowA true)):=by
  rw [List.map_map]
  refine List.map_congr_left fun nss hns=>?_
  show AVal.sl ((nss.map _).map encDd)=_
  rw [List.map_map]
  congr 1
  refine List.map_congr_left fun ns hn=>?_
  obtain ⟨a,b,c,rfl⟩:=three_ints (g1 nss hns ns hn)
  rfl
 rw [this]
 exact g3
end
end Go.Proofs.YteefnlbapebamaaGreatDoor
end
