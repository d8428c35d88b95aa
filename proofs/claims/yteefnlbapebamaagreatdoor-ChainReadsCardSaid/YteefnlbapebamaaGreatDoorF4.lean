/-
  Part 4 of the proof texts: the program logic over the model, then the contracts of the functions that the laws reach. No conditions.
-/
import Derived.Test.YteefnlbapebamaaGreatDoorF3
import Derived.RangeFuncIn
import Derived.MapKept
import Derived.Below
import Derived.ChangeMaps5
import Derived.HandedShaped
import Derived.Shelf.Vars
import Derived.Lib.AppendStr
import Derived.Laws.IdiomStrings
import Derived.Laws.MakeOwn
import Derived.Laws.CopyRow
import Derived.RecoverIn
set_option linter.unusedVariables false
set_option linter.unusedSimpArgs false
section
namespace Go.AL
open Go
theorem Inv.extend {ext:Nat→Prop} {w:World} {H:List AObj} {β:List Ent} (hI:Inv ext w H β) (bt:TypeId) (es:Nat) :
  Inv ext w (H++[.arr 1 bt es []]) (β++[⟨none,1,es,0,0⟩])∧Step w β w (β++[⟨none,1,es,0,0⟩]):=by
 have hlen:=hI.len
 have hst:Step w β w (β++[⟨none,1,es,0,0⟩]):=by
  refine ⟨rfl,rfl,rfl,Nat.le_refl _,fun b hb _=>rfl,fun b hb=>?_,fun j e he=>⟨e,by rw [List.getElem?_append_left (List.getElem?_eq_some_iff.1 he).1];exact he,Nat.le_refl _,fun _=>rfl,fun _=>rfl⟩⟩
  obtain ⟨j,e,he,hb⟩:=hb
  rcases Nat.lt_or_ge j β.length with hlt|hge
  ·rw [List.getElem?_append_left hlt] at he;exact .inl ⟨j,e,he,hb⟩
  ·rw [List.getElem?_append_right hge] at he
   have:j-β.length=0:=by
    have:=(List.getElem?_eq_some_iff.1 he).1
    simpa using this
   rw [this] at he;simp at he;subst he;cases hb
 have cls:∀ (i:Nat) (f:Ent),(β++[⟨none,1,es,0,0⟩])[i]? = some f→β[i]? = some f∨(i=β.length∧f=⟨none,1,es,0,0⟩):=fun i f hf=>by
  rcases Nat.lt_or_ge i β.length with hlt|hge
  ·rw [List.getElem?_append_left hlt] at hf;exact .inl hf
  ·rw [List.getElem?_append_right hge] at hf
   have:i-β.length=0:=by
    have:=(List.getElem?_eq_some_iff.1 hf).1
    simpa using this
   rw [this] at hf;simp at hf;exact .inr ⟨by omega,hf.symm⟩
 refine ⟨?_,hst⟩
 refine hI.upd hst (by simp [hlen]) ?_ ?_ ?_
 ·intro j o e ho he
  rcases cls j e he with h1|⟨h1,h2⟩
  ·have hlt:=(List.getElem?_eq_some_iff.1 h1).1
   rw [List.getElem?_append_left (by rw [←hlen];exact hlt)] at ho
   exact .inl ⟨ho,h1,fun _ _=>rfl⟩
  ·subst h2
   rw [h1,hlen] at ho
   simp at ho;subst ho
   exact .inr ⟨rfl,by decide,rfl,rfl,Nat.le_refl _,rfl⟩
 ·intro i k e f b hi hk he hf
  rcases cls i e hi with h1|⟨h1,h2⟩<;>rcases cls k f hk with h3|⟨h3,h4⟩
  ·exact hI.uniq i k e f b h1 h3 he hf
  ·subst h4;cases hf
  ·subst h2;cases he
  ·omega
 ·intro b hb
  rcases hst.fresh b hb with h1|h1
  ·exact hI.sep b h1
  ·obtain ⟨j,e,he,hb⟩:=hb
   rcases cls j e he with h2|⟨h2,h3⟩
   ·exact hI.sep b ⟨j,e,h2,hb⟩
   ·subst h3;cases hb
theorem aw_adoptB {P:Program} {G:Gh} {Q:APost} {c:Code} {F:Fr} {H:List AObj} (j i:Nat) (bt:TypeId) (es:Nat) {t:TypeId} {cs:List AVal} (hj:H[j]? = some (.box t cs)) (hi:cs[i]? = some (.slf []))
  (h:AW P G c Q F ((H++[AObj.arr 1 bt es []]).set j (.box t (cs.set i (.arr H.length 1))))):AW P G c Q F H:=by
 rintro a w ⟨β,hs⟩
 obtain ⟨hinv,hst⟩:=hs.inv.extend bt es
 have hlen:=hs.inv.len
 have hjl:=(List.getElem?_eq_some_iff.1 hj).1
 have hs1:=hs.world hinv hst
 refine h a w ⟨_,hs1.world ?_ (Step.refl _ _)⟩
 refine hinv.upd (Step.refl _ _) (by simp [hlen]) ?_ hinv.uniq (fun b hb=>hinv.sep b hb)
 intro k o e ho he
 by_cases hk:k=j
 ·subst hk
  rw [List.getElem?_set_self (by simp;omega)] at ho
  simp at ho;subst ho
  have hold:=hinv.obj k (.box t cs) e (by rw [List.getElem?_append_left hjl];exact hj) he
  obtain ⟨h0,h1,b,us,h2,h3,h4⟩:=hold
  refine .inr ⟨h0,?_,b,us,h2,h3,?_⟩
  ·rw [List.all_eq_true] at h1 ⊢
   intro x hx
   rcases List.mem_or_eq_of_mem_set hx with hx|rfl
   ·exact h1 x hx
   ·rfl
  ·obtain ⟨u,hu,hr⟩:=h4.get hi
   have hnew:Rel (ctx G.ext w (β++[⟨none,1,es,0,0⟩])) (.arr H.length 1) u:=by
    obtain ⟨A,es',g1,g2,g3⟩:=hr
    exact ⟨by subst g1;rfl,⟨none,1,es,0,0⟩,by rw [←hlen];simp,Nat.le_refl _,fun _=>⟨Nat.le_refl _,rfl,A,g1⟩⟩
   have:=h4.set i hnew
   have e1:us.toList.set i u=us.toList:=by
    refine List.ext_getElem? fun q=>?_
    by_cases hq:q=i
    ·subst hq;rw [List.getElem?_set_self (List.getElem?_eq_some_iff.1 hu).1,hu]
    ·rw [List.getElem?_set_ne (by omega)]
   rwa [e1] at this
 ·rw [List.getElem?_set_ne (by omega)] at ho
  exact .inl ⟨ho,he,fun _ _=>rfl⟩
theorem jadB {P:Program} {G:Gh} {Q:APost} {F:Fr} {H H':List AObj} {k:Kt} {c:Code} (j i:Nat) (bt:TypeId) (es:Nat) {t:TypeId} {cs:List AVal} {n:Nat} (hj:H[j]? = some (.box t cs)) (hi:cs[i]? = some (.slf [])) (hn:lenH H=some n)
  (hH:nrmH ((H++[AObj.arr 1 bt es []]).set j (.box t (cs.set i (.arr n 1))))=some H') (h:J P G Q (.c c k) F H'):J P G Q (.c c k) F H:=by
 refine aw_adoptB j i bt es hj hi ?_
 rw [lenH_eq hn] at hH
 rw [nrmH_eq hH] at h
 exact h
end Go.AL
namespace Go.AL
open Go
inductive Anc (ops:Array Oper):Nat→Nat→Prop
 | base {x y:Nat} {o:Oper} {e:Edge}:ops[x]? = some o→e∈o.after→Region.binds .any e=true→e.on=y→Anc ops x y
 | step {x y:Nat} {o:Oper} {e:Edge}:ops[x]? = some o→e∈o.after→Region.binds .any e=true→Anc ops e.on y→Anc ops x y
def Closed (ops:Array Oper) (listed:Array Bool):Prop:=∀ (z:Nat) (o:Oper),ops[z]? = some o→listed.getD z false=true→∀ e∈o.after,Region.binds .any e=true→listed.getD e.on false=true
theorem anc_listed {ops:Array Oper} {listed:Array Bool} {n:Nat} (hcl:Closed ops listed) (hn:listed.size=n) {x y:Nat} (h:Anc ops x y):(∀ o,ops[x]? = some o→∀ e∈o.after,Region.binds .any e=true→listed.getD e.on false=true)→listed.getD y false=true:=by
 induction h with
 | base h1 h2 h3 h4=>intro hx;rw [←h4];exact hx _ h1 _ h2 h3
 | step h1 h2 h3 _ ih =>
  intro hx
  exact ih fun o ho e he hb=>hcl _ o ho (hx _ h1 _ h2 h3) e he hb
theorem awd_anyT {P:Program} {G:Gh} {ops:Array Oper} {Q:APost} (hQ:∀ F F' H,FrEq F F'→Q .normal F H→Q .normal F' H) :
  ∀ (m:Nat) (L:List (Nat × Oper × K)) (listed:Array Bool) (F:Fr) (H:List AObj),L.length=m→Left ops.size L listed →
   (∀ x∈L,ops[x.1]? = some x.2.1)→(L.map (·.1)).Nodup →
   (∀ L1 x L2,L=L1++x::L2→(∀ y∈L2,y.1≠x.1→∀ e∈x.2.1.after,Region.binds .any e=true→e.on≠y.1)∧(∀ e∈x.2.1.after,Region.binds .any e=true→e.on < ops.size∧e.on≠x.1) ∧
    ∀ y∈L1,Anc ops x.1 y.1∨(y.2.1.apart ops x.2.1=true∧y.2.2.apart x.2.2=true))→Closed ops listed →
   AWD P G ops (Q .normal) L F H→∀ a w,St G F H a w→wpAnyIn (fz G.rd) 0 P .any ops (lift G Q) m listed a w
 | 0,L,listed,F,H,hm,hL,hops,hnd,hc,hcl,h,a,w,hs=>by
  obtain rfl:=List.length_eq_zero_iff.1 hm
  refine ⟨?_,F,H,h,hs⟩
  cases hr:Region.ready .any ops listed with
  | nil=>rfl
  | cons i r =>
   have:i∈Region.ready .any ops listed:=by rw [hr];exact List.mem_cons_self ..
   obtain ⟨h0,o,ho,_⟩:=mem_ready.1 this
   obtain ⟨x,hx,_⟩:=(hL.2 i (Array.getElem?_eq_some_iff.1 ho).1).1 h0
   cases hx
 | m+1,L,listed,F,H,hm,hL,hops,hnd,hc,hcl,h,a,w,hs=>by
  refine ⟨fun hr=>?_,fun i hi=>?_⟩
  ·-- the first of the walk is ready
   exfalso
   cases L with
   | nil=>simp at hm
   | cons x L =>
    obtain ⟨h1,h2,_⟩:=hc [] x L rfl
    have hx:=hops x (List.mem_cons_self ..)
    have hlt:=(Array.getElem?_eq_some_iff.1 hx).1
    have:x.1∈Region.ready .any ops listed:=by
     refine mem_ready.2 ⟨(hL.2 x.1 hlt).2 ⟨x,List.mem_cons_self ..,rfl⟩,x.2.1,hx,fun e he hb=>?_⟩
     obtain ⟨h3,h4⟩:=h2 e he hb
     have h5:¬(listed.getD e.on true=false):=fun hf=>by
      obtain ⟨y,hy,hye⟩:=(hL.2 e.on h3).1 hf
      cases List.mem_cons.1 hy with
      | inl hxy=>subst hxy;exact h4 hye.symm
      | inr hm'=>exact h1 y hm' (fun hyx=>h4 (hye ▸ hyx)) e he hb hye.symm
     have hsz:e.on < listed.size:=by rw [hL.1];exact h3
     simp only [Array.getD_eq_getD_getElem?,Array.getElem?_eq_getElem hsz,Option.getD_some] at h5 ⊢
     simpa using h5
    rw [hr] at this
    cases this
  ·obtain ⟨h0,o,ho,hall⟩:=mem_ready.1 hi
   have hlt:=(Array.getElem?_eq_some_iff.1 ho).1
   obtain ⟨x,hx,hxi⟩:=(hL.2 i hlt).1 h0
   subst hxi
   have hox:=hops x hx
   rw [ho] at hox
   simp at hox
   obtain ⟨L1,L2,hsplit⟩:=List.append_of_mem hx
   obtain ⟨h1,h2,h3⟩:=hc L1 x L2 hsplit
   obtain ⟨xi,xo,xk⟩:=x
   simp only at hox hsplit h1 h2 h3 ho hall hlt h0 hi hx
   subst hox
   have hun:∀ y∈L1,listed.getD y.1 true=false:=fun y hy=>by
    have hyL:y∈L:=by rw [hsplit];exact List.mem_append_left _ hy
    exact (hL.2 y.1 (Array.getElem?_eq_some_iff.1 (hops y hyL)).1).2 ⟨y,hyL,rfl⟩
   have hap:∀ y∈L1,y.2.1.apart ops o=true∧y.2.2.apart xk=true:=fun y hy=>by
    rcases h3 y hy with hA|h4
    ·exfalso
     have h6:=hun y hy
     have hyL:y∈L:=by rw [hsplit];exact List.mem_append_left _ hy
     have hyl:=(Array.getElem?_eq_some_iff.1 (hops y hyL)).1
     have h5:=anc_listed hcl (by rw [hL.1]) hA (fun o' ho' e he hb=>by
      rw [ho] at ho';injection ho' with ho';subst ho';exact hall e he hb)
     have hsz:y.1 < listed.size:=by rw [hL.1];exact hyl
     simp only [Array.getD_eq_getD_getElem?,Array.getElem?_eq_getElem hsz,Option.getD_some] at h5 h6
     rw [h5] at h6;cases h6
    ·exact h4
   rw [hsplit] at h
   obtain ⟨hd,v,H1,hst,hrest⟩:=AWD.take hQ L1 F H hap h
   have hnd':((L1++L2).map (·.1)).Nodup∧∀ y∈L1++L2,y.1≠xi:=by
    rw [hsplit] at hnd
    simp only [List.map_append,List.map_cons] at hnd ⊢
    rw [List.nodup_append] at hnd ⊢
    obtain ⟨n1,n2,n3⟩:=hnd
    rw [List.nodup_cons] at n2
    refine ⟨⟨n1,n2.2,fun a ha b hb=>n3 a ha b (List.mem_cons_of_mem _ hb)⟩,fun y hy hyx=>?_⟩
    cases List.mem_append.1 hy with
    | inl hy=>exact n3 y.1 (List.mem_map.2 ⟨y,hy,rfl⟩) xi (List.mem_cons_self ..) hyx
    | inr hy=>exact n2.1 (List.mem_map.2 ⟨y,hy,hyx⟩)
   have hleft:Left ops.size (L1++L2) (listed.setIfInBounds xi true):=by
    refine ⟨by simp [hL.1],fun j hj=>?_⟩
    by_cases hji:xi=j
    ·subst hji
     rw [getD_set_self (by rw [hL.1];exact hj)]
     constructor
     ·intro h;cases h
     ·rintro ⟨y,hy,hyx⟩;exact absurd hyx (hnd'.2 y hy)
    ·rw [getD_set_ne true hji,hL.2 j hj,hsplit]
     constructor
     ·rintro ⟨y,hy,hyj⟩
      rcases List.mem_append.1 hy with h4|h4
      ·exact ⟨y,List.mem_append_left _ h4,hyj⟩
      ·cases List.mem_cons.1 h4 with
       | inl h5=>subst h5;exact absurd hyj hji
       | inr h5=>exact ⟨y,List.mem_append_right _ h5,hyj⟩
     ·rintro ⟨y,hy,hyj⟩
      rcases List.mem_append.1 hy with h4|h4
      ·exact ⟨y,List.mem_append_left _ h4,hyj⟩
      ·exact ⟨y,List.mem_append_right _ (List.mem_cons_of_mem _ h4),hyj⟩
   have hsub:∀ y∈L1++L2,y∈L:=fun y hy=>by
    rw [hsplit]
    rcases List.mem_append.1 hy with h4|h4
    ·exact List.mem_append_left _ h4
    ·exact List.mem_append_right _ (List.mem_cons_of_mem _ h4)
   have hc':∀ M1 y M2,L1++L2=M1++y::M2→(∀ z∈M2,z.1≠y.1→∀ e∈y.2.1.after,Region.binds .any e=true→e.on≠z.1)∧(∀ e∈y.2.1.after,Region.binds .any e=true→e.on < ops.size∧e.on≠y.1) ∧
     ∀ z∈M1,Anc ops y.1 z.1∨(z.2.1.apart ops y.2.1=true∧z.2.2.apart y.2.2=true):=by
    intro M1 y M2 hM
    rcases List.append_eq_append_iff.1 hM with ⟨asL,ha1,ha2⟩|⟨bs,hb1,hb2⟩
    ·-- M1=L1++asL,L2=asL++y::M2
     obtain ⟨c1,c2,c3⟩:=hc (L1++(xi,o,xk)::asL) y M2 (by rw [hsplit,ha2];simp)
     refine ⟨c1,c2,fun z hz=>c3 z ?_⟩
     rw [ha1] at hz
     rcases List.mem_append.1 hz with h4|h4
     ·exact List.mem_append_left _ h4
     ·exact List.mem_append_right _ (List.mem_cons_of_mem _ h4)
    ·cases bs with
     | nil =>
      simp at hb1 hb2
      obtain ⟨c1,c2,c3⟩:=hc (L1++[(xi,o,xk)]) y M2 (by rw [hsplit,←hb2];simp)
      refine ⟨c1,c2,fun z hz=>c3 z ?_⟩
      rw [←hb1] at hz
      exact List.mem_append_left _ hz
     | cons b bs =>
      simp at hb2
      obtain ⟨hb2,hb3⟩:=hb2
      subst hb2
      obtain ⟨c1,c2,c3⟩:=hc M1 y (bs++(xi,o,xk)::L2) (by rw [hsplit,hb1];simp)
      refine ⟨fun z hz=>c1 z ?_,c2,c3⟩
      rw [hb3] at hz
      rcases List.mem_append.1 hz with h4|h4
      ·exact List.mem_append_left _ h4
      ·exact List.mem_append_right _ (List.mem_cons_of_mem _ h4)
   have hcl':Closed ops (listed.setIfInBounds xi true):=by
    have hxs:xi < listed.size:=by rw [hL.1];exact hlt
    have mono:∀ j,listed.getD j false=true→(listed.setIfInBounds xi true).getD j false=true:=fun j hj=>by
     by_cases hji:xi=j
     ·subst hji;simp [hxs]
     ·rw [getD_set_ne false hji];exact hj
    intro z oz hoz hz e he hb
    by_cases hzi:xi=z
    ·subst hzi
     rw [ho] at hoz;injection hoz with hoz;subst hoz
     exact mono _ (hall e he hb)
    ·rw [getD_set_ne false hzi] at hz
     exact mono _ (hcl z oz hoz hz e he hb)
   have next:∀ a w,St G (fput F o.dst v) H1 a w→wpAnyIn (fz G.rd) 0 P .any ops (lift G Q) m (listed.setIfInBounds xi true) a w :=
    awd_anyT hQ m (L1++L2) _ _ H1 (by rw [hsplit] at hm;simp at hm ⊢;omega) hleft (fun y hy=>hops y (hsub y hy)) hnd'.1 hc' hcl' hrest
   unfold wpOpIn
   simp only [ho]
   obtain ⟨β,hs'⟩:=id hs
   rcases hst with ⟨hg,hsem⟩|⟨hg,rfl,rfl⟩
   ·rw [if_pos (guardA_ok hs' hg)]
    exact op_wp hd hsem.op hs fun r H' ⟨h4,h5⟩=>by subst h4;subst h5;exact next
   ·rw [if_neg (by rw [guardA_ok hs' hg];simp)]
    exact ⟨fun _ _=>trivial,next _ _ ⟨β,hs'.undef hd⟩⟩
def maskOf:List (Nat × Oper × K × Nat)→Nat→Nat
 | [],_=>0
 | x::r,i=>cond (Nat.beq x.1 i) x.2.2.2 (maskOf r i)
def maskE (ahead:List (Nat × Oper × K × Nat)):List Edge→Nat
 | []=>0
 | e::r=>cond (Region.binds .any e) (Nat.lor (Nat.lor (Nat.shiftLeft 1 e.on) (maskOf ahead e.on)) (maskE ahead r)) (maskE ahead r)
def drawGoT (ops:Array Oper):List (Nat × Oper × K × Nat)→List (Nat × Oper × K)→Bool
 | _,[]=>true
 | ahead,x::r=>x.2.1.after.toList.all (fun e=>!Region.binds .any e||(ahead.any (fun y=>Nat.beq y.1 e.on)))&&Nat.blt x.1 ops.size && !(ahead.any (fun y=>Nat.beq y.1 x.1)) &&
   ahead.all (fun y=>Nat.testBit (maskE ahead x.2.1.after.toList) y.1||(y.2.1.apart ops x.2.1&&y.2.2.1.apart x.2.2))&&drawGoT ops ((x.1,x.2.1,x.2.2,maskE ahead x.2.1.after.toList)::ahead) r
def drawOkT (l:List Oper) (L:List (Nat × Oper × K)):Bool:=Nat.beq L.length l.length&&drawGoT l.toArray [] L
def MaskOk (ops:Array Oper) (ahead:List (Nat × Oper × K × Nat)):Prop:=∀ i y,(maskOf ahead i).testBit y=true→Anc ops i y
theorem maskE_ok {ops:Array Oper} {ahead:List (Nat × Oper × K × Nat)} (h:MaskOk ops ahead) {x:Nat} {o:Oper} (ho:ops[x]? = some o):∀ {es:List Edge},(∀ e∈es,e∈o.after)→∀ y,(maskE ahead es).testBit y=true→Anc ops x y
 | [],_,y,hy=>by simp [maskE] at hy
 | e::es,hes,y,hy=>by
  simp only [maskE] at hy
  have ih:=maskE_ok h ho (es:=es) (fun e he=>hes e (List.mem_cons_of_mem _ he)) y
  cases hb:Region.binds .any e with
  | false=>rw [hb] at hy;exact ih hy
  | true =>
   rw [hb,cond_true] at hy
   have hy:((1 <<< e.on ||| maskOf ahead e.on) ||| maskE ahead es).testBit y=true:=hy
   rw [Nat.testBit_or,Nat.testBit_or,Nat.testBit_shiftLeft] at hy
   simp only [Bool.or_eq_true,Bool.and_eq_true,decide_eq_true_eq] at hy
   rcases hy with (⟨h1,h2⟩|h1)|h1
   ·refine .base ho (hes e (List.mem_cons_self ..)) hb ?_
    have h3:y-e.on=0:=by
     cases hq:y-e.on with
     | zero=>rfl
     | succ q=>rw [hq,Nat.testBit_succ] at h2;simp at h2
    omega
   ·exact .step ho (hes e (List.mem_cons_self ..)) hb (h _ _ h1)
   ·exact ih h1
theorem drawGoT_split {ops:Array Oper}:∀ {L:List (Nat × Oper × K)} {ahead:List (Nat × Oper × K × Nat)},MaskOk ops ahead→(∀ x∈L,ops[x.1]? = some x.2.1)→drawGoT ops ahead L=true→∀ (L1:List (Nat × Oper × K)) (x:Nat × Oper × K) (L2:List (Nat × Oper × K)),L=L1++x::L2 →
  (∀ e∈x.2.1.after,Region.binds .any e=true→(∃ y∈L1,y.1=e.on)∨∃ y∈ahead,y.1=e.on)∧x.1 < ops.size∧(∀ y∈L1,y.1≠x.1)∧(∀ y∈ahead,y.1≠x.1) ∧
   (∀ y∈L1,Anc ops x.1 y.1∨(y.2.1.apart ops x.2.1=true∧y.2.2.apart x.2.2=true))∧∀ y∈ahead,Anc ops x.1 y.1∨(y.2.1.apart ops x.2.1=true∧y.2.2.1.apart x.2.2=true)
 | [],ahead,_,_,_,L1,x,L2,h=>by cases L1<;>simp at h
 | z::r,ahead,hM,hops,hg,L1,x,L2,h=>by
  simp only [drawGoT,Bool.and_eq_true] at hg
  obtain ⟨⟨⟨⟨g1,g2⟩,g3⟩,g4⟩,g5⟩:=hg
  have hz:=hops z (List.mem_cons_self ..)
  have hEok:=fun y=>maskE_ok hM hz (es:=z.2.1.after.toList) (fun e he=>by simpa using he) y
  cases L1 with
  | nil =>
   simp at h
   obtain ⟨rfl,rfl⟩:=h
   refine ⟨fun e he hb=>.inr ?_,Nat.le_of_ble_eq_true g2,by simp,fun y hy hyz=>?_,by simp,fun y hy=>?_⟩
   ·have:=List.all_eq_true.1 g1 e (by simpa using he)
    rw [hb] at this
    simp only [Bool.not_true,Bool.false_or] at this
    obtain ⟨y,hy,hye⟩:=List.any_eq_true.1 this
    exact ⟨y,hy,Nat.eq_of_beq_eq_true hye⟩
   ·have:ahead.any (fun y=>Nat.beq y.1 z.1)=true:=List.any_eq_true.2 ⟨y,hy,by rw [hyz];simp⟩
    rw [this] at g3;simp at g3
   ·have:=List.all_eq_true.1 g4 y hy
    simp only [Bool.or_eq_true,Bool.and_eq_true] at this
    rcases this with h1|h1
    ·exact .inl (hEok _ h1)
    ·exact .inr h1
  | cons z' L1 =>
   simp at h
   obtain ⟨rfl,rfl⟩:=h
   have hM':MaskOk ops ((z.1,z.2.1,z.2.2,maskE ahead z.2.1.after.toList)::ahead):=fun i y hy=>by
    simp only [maskOf] at hy
    cases hb:Nat.beq z.1 i with
    | true =>
     rw [hb,cond_true] at hy
     have e:=Nat.eq_of_beq_eq_true hb
     subst e
     exact hEok _ hy
    | false=>rw [hb,cond_false] at hy;exact hM i y hy
   obtain ⟨s1,s2,s3,s4,s5,s6⟩:=drawGoT_split hM' (fun y hy=>hops y (List.mem_cons_of_mem _ hy)) g5 L1 x L2 rfl
   refine ⟨fun e he hb=>?_,s2,fun y hy=>?_,fun y hy=>s4 y (List.mem_cons_of_mem _ hy),fun y hy=>?_,fun y hy=>s6 y (List.mem_cons_of_mem _ hy)⟩
   ·rcases s1 e he hb with ⟨y,hy,hye⟩|⟨y,hy,hye⟩
    ·exact .inl ⟨y,List.mem_cons_of_mem _ hy,hye⟩
    ·rcases List.mem_cons.1 hy with rfl|hy
     ·exact .inl ⟨z,List.mem_cons_self ..,hye⟩
     ·exact .inr ⟨y,hy,hye⟩
   ·rcases List.mem_cons.1 hy with rfl|hy
    ·exact s4 (y.1,y.2.1,y.2.2,_) (List.mem_cons_self ..)
    ·exact s3 y hy
   ·rcases List.mem_cons.1 hy with rfl|hy
    ·exact s6 (y.1,y.2.1,y.2.2,_) (List.mem_cons_self ..)
    ·exact s5 y hy
theorem split_nodup:∀ {L:List (Nat × Oper × K)},(∀ L1 x L2,L=L1++x::L2→∀ y∈L1,y.1≠x.1)→(L.map (·.1)).Nodup
 | [],_=>List.nodup_nil
 | z::r,h=>by
  rw [List.map_cons,List.nodup_cons]
  refine ⟨fun hm=>?_,split_nodup fun L1 x L2 e y hy=>h (z::L1) x L2 (by rw [e];rfl) y (List.mem_cons_of_mem _ hy)⟩
  obtain ⟨x,hx,hxz⟩:=List.mem_map.1 hm
  obtain ⟨A,B,e⟩:=List.append_of_mem hx
  exact h (z::A) x B (by rw [e];rfl) z (List.mem_cons_self ..) hxz.symm
theorem aw_drawLT {P:Program} {G:Gh} {Q:APost} [T:TyTab P] {id:Nat} {l:List Oper} {L:List (Nat × Oper × K)} {F:Fr} {H:List AObj} (hops:∀ x∈L,l.toArray[x.1]? = some x.2.1) (hc:drawOkT l L=true)
  (h:AWD P G l.toArray (fun F H=>Q .normal F H) L F H):AW P G (.region id l.toArray true) Q F H:=by
 intro a w hs
 simp only [drawOkT,Bool.and_eq_true] at hc
 obtain ⟨c1,c2⟩:=hc
 have c1:=Nat.eq_of_beq_eq_true c1
 have c3:=drawGoT_split (ops:=l.toArray) (fun i y hy=>by simp [maskOf] at hy) hops c2
 have n1:(L.map (·.1)).Nodup:=split_nodup fun L1 x L2 e y hy=>(c3 L1 x L2 e).2.2.1 y hy
 let Q':APost:=fun e F H=>∃ F0,FrEq F0 F∧Q e F0 H
 have hQ':∀ F F' H,FrEq F F'→Q' .normal F H→Q' .normal F' H:=fun F F' H he ⟨F0,h0,h1⟩=>⟨F0,fun t=>(h0 t).trans (he t),h1⟩
 have h':AWD P G l.toArray (Q' .normal) L F H:=by
  have:∀ (L:List (Nat × Oper × K)) (F:Fr) (H:List AObj),AWD P G l.toArray (fun F H=>Q .normal F H) L F H→AWD P G l.toArray (Q' .normal) L F H:=by
   intro L
   induction L with
   | nil=>intro F H h;exact ⟨F,fun _=>rfl,h⟩
   | cons x r ih=>intro F H ⟨hd,v,H1,h1,h2⟩;exact ⟨hd,v,H1,h1,ih _ _ h2⟩
  exact this L F H h
 have hsame:∀ (w':World),SameMem w w'→St G F H a w':=fun w' hw=>by
  obtain ⟨β,hs⟩:=hs
  exact ⟨β,hs.world (hs.inv.same hw) (hw.step β)⟩
 refine wpIn_mono (wpIn_region_any T.mixed (Q:=lift G Q') ?_) ?_
 ·refine awd_anyT hQ' _ L _ F H (by simpa using c1) ⟨by simp,fun i hi=>?_⟩ hops n1 ?_ ?_ h' a _ (hsame _ (drew_same w))
  ·have hm:i∈L.map (·.1):=nodup_full n1 (by simpa using c1) (fun y hy=>by
    obtain ⟨x,hx,rfl⟩:=List.mem_map.1 hy
    have:=(Array.getElem?_eq_some_iff.1 (hops x hx)).1
    simpa using this) i (by simpa using hi)
   obtain ⟨x,hx,hxi⟩:=List.mem_map.1 hm
   have hi':i < l.length:=by simpa using hi
   constructor
   ·intro _;exact ⟨x,hx,hxi⟩
   ·intro _;simp [hi']
  ·intro L1 x L2 hL
   obtain ⟨s1,s2,s3,s4,s5,s6⟩:=c3 L1 x L2 hL
   refine ⟨fun y hy hyx e he hb hey=>?_,fun e he hb=>?_,fun y hy=>s5 y hy⟩
   ·rcases s1 e he hb with ⟨z,hz,hze⟩|⟨z,hz,_⟩
    ·rw [hL] at n1
     simp only [List.map_append,List.map_cons] at n1
     rw [List.nodup_append] at n1
     exact n1.2.2 z.1 (List.mem_map.2 ⟨z,hz,rfl⟩) y.1 (List.mem_cons_of_mem _ (List.mem_map.2 ⟨y,hy,rfl⟩)) (hze.trans hey)
    ·cases hz
   ·rcases s1 e he hb with ⟨z,hz,hze⟩|⟨z,hz,_⟩
    ·have hz':z∈L:=by rw [hL];exact List.mem_append_left _ hz
     have:=(Array.getElem?_eq_some_iff.1 (hops z hz')).1
     exact ⟨by rw [←hze];exact this,fun hex=>s3 z hz (hze.trans hex)⟩
    ·cases hz
  ·intro z o ho hz
   have hlt:=(Array.getElem?_eq_some_iff.1 ho).1
   simp at hlt
   simp [hlt] at hz
 ·intro e a' w' he
  cases e with
  | normal=>obtain ⟨F',H',⟨F0,h0,h1⟩,h2⟩:=he;exact ⟨F0,H',h1,h2.eq (fun t=>(h0 t).symm)⟩
  | ret=>obtain ⟨F',H',⟨F0,h0,h1⟩,h2⟩:=he;exact ⟨F0,H',h1,h2.eq (fun t=>(h0 t).symm)⟩
  | exit id=>obtain ⟨F',H',⟨F0,h0,h1⟩,h2⟩:=he;exact ⟨F0,H',h1,h2.eq (fun t=>(h0 t).symm)⟩
  | panic ch =>
   obtain ⟨v,F',H',β,u,⟨F0,h0,h1⟩,h2,h3,h4⟩:=he
   exact ⟨v,F0,H',β,u,h1,⟨h2.inv,h2.step,h2.extOk,h2.size,h2.defers,fun t v ht=>h2.get t v (by rw [←h0 t];exact ht)⟩,h3,h4⟩
  | goto l=>exact he.elim
  | outgrown=>exact he.elim
theorem jdrawPT {P:Program} {G:Gh} {Q:APost} [T:TyTab P] {F:Fr} {H:List AObj} {k:Kt} {id:Nat} {l:List Oper} (pl:List (Nat × K)) (hp:pl.all (fun x=>Nat.blt x.1 l.length)=true) (hc:drawOkT l (plan l pl)=true)
  (next:J P G Q (.d l.toArray (plan l pl) k) F H):J P G Q (.c (.region id l.toArray true) k) F H:=aw_drawLT (plan_ops hp) hc next
end Go.AL
namespace Go.AL
open Go
section
variable {P:Program} [T:TyTab P] {F:Fr} {H H':List AObj} {dst:Option Tmp} {t yt:TypeId} {x y:Operand} {type:TypeId} {pos:String} {after:Array Edge} {guard:Option (Nat × Bool)} {a b:Int} {k:IntKind}
theorem store_enc {x' a':Operand} {j g n off es:Nat} {bt:TypeId} {α:Type} {enc:α→AVal} {l l':List α} {y v:AVal} {r:TyRow} (ha:ev F a'=some (.ep j g n off)) (hx:ev F x'=some v) (hj:H[j]? = some (.arr g bt es (l.map enc))) (hy:(l.map enc)[n]? = some y) (hyf:y.flat=true)
  (ht:tfind T.tab t=some r) (hl:v.cells.length=r.size) (hf:v.flat=true) (hfr:v.free=true) (hin:off+r.size≤y.cells.length) (hwhole:(∃ cs,y = .agg cs)∨y.one=true∧v.cells=[v]) (he:(l.map enc).set n (elemSet y off v.cells)=l'.map enc) (hH:hsetO H j (.arr g bt es (l'.map enc))=some H') :
  DSem P .m ⟨dst,.store t a' x',type,pos,after,guard⟩ F H (.tup []) H':=by
 rw [hsetO_eq hH,←he]
 exact store_own ha hx hj hy hyf ht hl hf hfr hin hwhole
end
theorem map_at {α:Type} [Inhabited α] {enc:α→AVal} {l:List α} {i:Nat} (h:i < l.length):(l.map enc)[(i:Int).toNat]? = some (enc (at' l (i:Int))):=by
 rw [Int.toNat_natCast,List.getElem?_map,List.getElem?_eq_getElem h,at_nat l i h];rfl
end Go.AL
namespace Go.AL
open Go
section
variable {P:Program}
def AYield (P:Program) (l:Nat) (args:List AVal) (H:List AObj) (res:Eff):Prop :=
 ∀ (ext:Nat→Prop) (w:World) (β:List Ent) (us:List Value),Inv ext w H β→(∀ b,ext b→b < w.heap.size)→RelL (ctx ext w β) args us →
  ∃ fn tmps assign body,(Instr.yield l us.toArray).run P w = .ok (.round l fn tmps assign body) w∧RoundIn Fence.wide 0 P l fn tmps assign body w (Ended ext w β res)
theorem yield_sem {dst:Option Tmp} {fo:Operand} {args:Array Operand} {argTypes:Array TypeId} {type:TypeId} {pos:String} {after:Array Edge} {guard:Option (Nat × Bool)} {F:Fr} {H:List AObj} {l:Nat} {vs:List AVal} {Q:Eff}
  (hf:ev F fo=some (.fn (.yield l) [] [])) (ha:evs F args.toList=some vs) (hc:AYield P l vs H Q) :
  OpSem P ⟨dst,.call { callee:=.value fo,args,argTypes },type,pos,after,guard⟩ F H Q:=by
 intro ext w β ρ hI hext hκ hρ
 obtain ⟨a1,a2,hu,r1,r2⟩:=hρ fo (by simp [Op.operands,Call.operands]) _ hf
 have e1:a1 = #[]:=by have:a1.toList=[]:=r1;exact Array.toList_eq_nil_iff.1 this
 have e2:a2 = #[]:=by have:a2.toList=[]:=r2;exact Array.toList_eq_nil_iff.1 this
 subst e1;subst e2
 have r3:=evs_rel (c:=ctx ext w β) (ρ:=ρ) (fun x hx=>hρ x (by simp [Op.operands,Call.operands];exact .inr (by simpa using hx))) ha
 obtain ⟨fn,tmps,assign,body,h1,h2⟩:=hc ext w β _ hI hext r3
 have h4:(execOp ρ ⟨dst,.call { callee:=.value fo,args,argTypes },type,pos,after,guard⟩).run P w = .ok (.round l fn tmps assign body) w:=by
  simp only [execOp,resolve,hu,Deferred.ofValue,Sem.run_bind,Sem.run_pure,Result.andThen_ok,invoke]
  have he:(#[]++args.map ρ:Array Value)=(args.toList.map ρ).toArray:=by apply Array.ext';simp
  rw [he]
  exact h1
 rw [h4]
 exact h2
theorem putObj_inv {ext:Nat→Prop} {w:World} {H:List AObj} {β:List Ent} (hI:Inv ext w H β) {j l:Nat} {st st':LoopState} {pend pend':Option Code} {s:LoopS} {vs:List AVal} (hj:H[j]? = some (.loop l st pend s vs)) :
  ∃ r:Loop,w.heap[l]? = some (.loop r)∧r.state=st∧r.pending=pend∧r.params=s.ps∧r.fn=s.fn∧r.assign=s.assign∧r.body=s.body∧r.tmps.size=s.n ∧
   (∀ (t:Nat) (v:AVal),fget (s.ts.zip vs) t=some v→∃ u,r.tmps[t]? = some u∧Rel (ctx ext w β) v u) ∧
   Inv ext (w.putObj l (.loop { r with state:=st',pending:=pend' })) (H.set j (.loop l st' pend' s vs)) β∧Step w β (w.putObj l (.loop { r with state:=st',pending:=pend' })) β:=by
 have hjl:j < β.length:=by rw [hI.len];exact (List.getElem?_eq_some_iff.1 hj).1
 have hj':=List.getElem?_eq_getElem hjl
 obtain ⟨h1,h2,tmps,us,h3,h4,h5,h6,h7⟩:=hI.obj j _ _ hj hj'
 have hlt:=(Array.getElem?_eq_some_iff.1 h3).1
 have hst:Step w β (w.putObj l (.loop ⟨st',pend',s.fn,tmps,s.ps,s.assign,s.body,s.d⟩)) β:=Step.write ⟨j,_,hj',h2⟩ (by simp) (fun c hc=>World.putObj_heap_other hc) rfl rfl rfl
 refine ⟨⟨st,pend,s.fn,tmps,s.ps,s.assign,s.body,s.d⟩,h3,rfl,rfl,rfl,rfl,rfl,rfl,h4,fun t v ht=>?_,hI.write hj' h2 (by simp) (fun c hc=>World.putObj_heap_other hc) rfl rfl rfl ?_,hst⟩
 ·refine zip_get h5 (fun i t hi hl=>?_) t v ht
  exact ⟨us[i],List.getElem?_eq_getElem hl,by rw [h7 i t hi];exact List.getElem?_eq_getElem hl⟩
 ·exact ⟨h1,h2,tmps,us,World.putObj_heap_same hlt,h4,h5.le hst.le,h6,h7⟩
theorem fold_get {c:Ctx} {n:Nat}:∀ {ps:List Nat} {args:List AVal} {us:List Value} {tmps:Array Value} {F:Fr},RelL c args us→tmps.size=n→ps.all (Nat.blt · n)=true→(∀ (t:Nat) (v:AVal),fget F t=some v→∃ u,tmps[t]? = some u∧Rel c v u) →
  ((ps.zip us).foldl (fun tmps (t,a)=>tmps.setIfInBounds t a) tmps).size=n ∧
  ∀ (t:Nat) (v:AVal),fget ((ps.zip args).foldl (fun F x=>x::F) F) t=some v→∃ u,((ps.zip us).foldl (fun tmps (t,a)=>tmps.setIfInBounds t a) tmps)[t]? = some u∧Rel c v u
 | [],_,_,_,_,_,hs,_,h=>by simpa using ⟨hs,h⟩
 | p::ps,[],us,tmps,F,hr,hs,_,h=>by
  have:us=[]:=hr
  subst this
  simpa using ⟨hs,h⟩
 | p::ps,a::args,us,tmps,F,hr,hs,hp,h=>by
  obtain ⟨u,us',rfl,r,rs⟩:=hr
  simp only [List.all_cons,Bool.and_eq_true] at hp
  have hlt:p < tmps.size:=by rw [hs];exact Nat.le_of_ble_eq_true hp.1
  simp only [List.zip_cons_cons,List.foldl_cons]
  refine fold_get rs (by simpa using hs) hp.2 fun t v ht=>?_
  simp only [fget] at ht
  cases hb:Nat.beq p t with
  | true =>
   have:=Nat.eq_of_beq_eq_true hb
   subst this
   rw [hb] at ht;simp at ht;subst ht
   exact ⟨u,by simp [hlt],r⟩
  | false =>
   have hne:p≠t:=fun e=>by subst e;simp at hb
   rw [hb] at ht;simp at ht
   obtain ⟨y,h1,h2⟩:=h t v ht
   exact ⟨y,by rw [Array.getElem?_setIfInBounds_ne hne];exact h1,h2⟩
def jumpOf:AExit→Option (Option Code)
 | .normal=>some none
 | .ret=>some (some .ret)
 | .exit id=>some (some (.exit id))
 | .panic _=>none
def RoundQ (j n:Nat) (Q:Eff):APost:=fun e _ H=>∃ jump l s vs H1 H' wk,jumpOf e=some jump∧H[j]? = some (.loop l .busy none s vs) ∧
 H1=H.set j (.loop l (cond jump.isNone .ready .done) jump s vs)∧finish n [] wk H1 (.v (.bool jump.isNone))=some (.v (.bool jump.isNone),H')∧Q (.ret (.v (.bool jump.isNone))) H'
theorem ayield_intro {l j:Nat} {s:LoopS} {vs args:List AVal} {H:List AObj} {Q:Eff} (hj:H[j]? = some (.loop l .ready none s vs)) (hps:s.ps.size=args.length) (hpn:s.ps.toList.all (Nat.blt · s.n)=true)
  (h:∀ w0 β0 ext,β0.length=H.length→AW P ⟨w0,β0,ext,s.n,[],some l,false⟩ s.assign (athen (fun F1 H1=>H1[j]? = some (.loop l .ready none s vs)∧AW P ⟨w0,β0,ext,s.n,[],some l,false⟩ s.body (RoundQ j H.length Q) F1 (H1.set j (.loop l .busy none s vs))) (fun _ _ _=>False))
   ((s.ps.toList.zip args).foldl (fun F x=>x::F) (s.ts.zip vs)) H):AYield P l args H Q:=by
 intro ext w β us hI hx hr
 obtain ⟨r,hr1,hr2,hr3,hr4,hr5,hr6,hr7,hr8,hr9,_,_⟩:=putObj_inv (st':=.ready) (pend':=none) hI hj
 have hul:=hr.length
 have hy:=run_yield (P:=P) (args:=us.toArray) hr1 (by rw [hr4,hps];simp [hul])
 have hfold:∀ (a b:Array Nat) (_:a=b) (t:Array Value),(a.zip us.toArray).foldl (fun tmps (t,a)=>tmps.setIfInBounds t a) t=(b.toList.zip us).foldl (fun tmps (t,a)=>tmps.setIfInBounds t a) t:=by
  rintro a _ rfl t
  rw [←Array.foldl_toList,Array.toList_zip]
 rw [hfold _ _ hr4] at hy
 rw [hr5,hr6,hr7] at hy
 obtain ⟨f1,f2⟩:=fold_get (ps:=s.ps.toList) hr hr8 hpn hr9
 let G:Gh:=⟨w,β,ext,s.n,[],some l,false⟩
 have mk0:∀ ds,ds=[]→Marks G β { tmps:=(s.ps.toList.zip us).foldl (fun tmps (t,a)=>tmps.setIfInBounds t a) r.tmps,defers:=ds } w:=fun ds hd=>⟨[],List.nodup_nil,hd,fun r hr=>by simp at hr,fun _=>rfl⟩
 have hst:St G ((s.ps.toList.zip args).foldl (fun F x=>x::F) (s.ts.zip vs)) H { tmps:=(s.ps.toList.zip us).foldl (fun tmps (t,a)=>tmps.setIfInBounds t a) r.tmps,defers:=[] } w :=
  ⟨β,hI,Step.refl w β,hx,f1,mk0 [] rfl,f2⟩
 refine ⟨s.fn,_,s.assign,s.body,hy,roundIn_of_wpIn (F:=Fence.wide) trivial (wpIn_mono (h w β ext hI.len _ w hst) ?_)⟩
 intro e a1 w1 he
 cases e with
 | exit id=>obtain ⟨_,_,h1,_⟩:=he;exact h1
 | ret=>obtain ⟨_,_,h1,_⟩:=he;exact h1
 | goto t=>exact he
 | panic ch=>obtain ⟨_,_,_,_,_,h1,_⟩:=he;exact h1
 | outgrown=>exact he
 | normal =>
  obtain ⟨F1,H1,⟨hj1,hbody⟩,β1,hs1⟩:=he
  obtain ⟨r1,q1,q2,q3,_,_,_,_,_,_,q9,q10⟩:=putObj_inv (st':=.busy) (pend':=none) hs1.inv hj1
  have e1:({ r1 with state:=.busy }:Loop) = { r1 with state:=.busy,pending:=none }:=by rw [←q3]
  have hbr:=run_beginRound (P:=P) q1 q2
  rw [e1] at hbr
  refine ⟨_,hbr,wpIn_mono (hbody _ _ ⟨β1,hs1.world q9 q10⟩) ?_⟩
  have key:∀ (ex:AExit) (jump:Option Code) (a':Act) (w':World),jumpOf ex=some jump→(∃ F' H',RoundQ j H.length Q ex F' H'∧St G F' H' a' w') →
    ∃ v w'',(Instr.endRound l jump).run P w' = .ok v w''∧Ended ext w β Q (.returned v) w'':=by
   rintro ex jump a' w' hex ⟨F',H',⟨jump',l',s',vs',H2,H3,wk,g1,g2,g3,g4,g5⟩,β',hs'⟩
   rw [hex] at g1;injection g1 with g1;subst g1
   have hl':l'=l:=by
    -- the record stands where it stood
    have hjl:j < β.length:=by rw [hI.len];exact (List.getElem?_eq_some_iff.1 hj).1
    have b0:=hI.obj j _ _ hj (List.getElem?_eq_getElem hjl)
    obtain ⟨e',k1,k2,k3,k4⟩:=hs'.step.ents j _ (List.getElem?_eq_getElem hjl)
    have b1:=hs'.inv.obj j _ _ g2 k1
    have:=k4 b0.1
    rw [this] at b1
    have:=b1.2.1.symm.trans b0.2.1
    simpa using this
   subst hl'
   obtain ⟨r2,p1,p2,p3,_,_,_,_,_,_,p9,p10⟩:=putObj_inv (st':=cond jump.isNone .ready .done) (pend':=jump) hs'.inv g2
   have her:=run_endRound (P:=P) jump p1
   have e2:(if jump.isNone then LoopState.ready else .done)=cond jump.isNone .ready .done:=by cases jump.isNone<;>rfl
   rw [e2] at her
   refine ⟨_,_,her,?_⟩
   subst g3
   exact Came.mono (fun q G' ⟨e1,e2⟩=>by subst e1;subst e2;exact g5) (finish_came (k:=.ret) p9 (hs'.step.trans p10) hI.len (show Rel _ (.v (.bool jump.isNone)) _ from rfl) rfl g4)
  intro e a' w' he
  cases e with
  | normal=>exact key .normal none a' w' rfl he
  | ret=>exact key .ret (some .ret) a' w' rfl he
  | exit id=>exact key (.exit id) (some (.exit id)) a' w' rfl he
  | goto t=>exact he.elim
  | panic ch=>obtain ⟨v,F',H',_,_,⟨_,_,_,_,_,_,_,h1,_⟩,_⟩:=he;cases h1
  | outgrown=>exact he
end
end Go.AL
namespace Go.AL
open Go
def exitOf:Option Code→Option AExit
 | none=>some .normal
 | some .ret=>some .ret
 | some (.exit id)=>some (.exit id)
 | _=>none
section
variable {P:Program} {G:Gh} {Q:APost}
theorem StB.push {β:List Ent} {F:Fr} {H:List AObj} {a:Act} {w:World} (h:StB G β F H a w) (o:Obj):StB G β F H a (World.push w o):=h.world (h.inv.push o) (Step.push w β o)
theorem aw_range {g:Operand} {ps:Array Tmp} {assign body:Code} {F:Fr} {H:List AObj} {f:FuncId} {fs cs:List AVal} (ts:List Nat) {vs:List AVal} (hp:fproj F ts=some vs) (hrd:(G.rd,G.nm)=(none,false)) (hg:ev F g=some (.fn (.func f) fs cs))
  (h:∀ (l:Nat) (s:LoopS),s.ts=ts→s.n=G.n→s.ps=ps→s.assign=assign→s.body=body →
   ∃ res,ACalls P f (fs++[.fn (.yield l) [] []]++cs) (H++[.loop l .ready none s vs]) res ∧
    ∀ r H',res r H'→∃ v st pend vs' x,r = .ret v∧H'[H.length]? = some (.loop l st pend s vs')∧st ≠ .busy∧exitOf pend=some x∧Q x F (H'.set H.length (.loop l .exhausted pend s vs'))) :
  AW P G (.rangeFunc g ps assign body) Q F H:=by
 intro a w ⟨β,hs⟩
 obtain ⟨hrd,hnm⟩:=Prod.mk.inj hrd
 rw [hrd]
 refine wpIn_rangeFunc fun fn _=>?_
 have hlen:=hs.inv.len
 have hs1:=hs.push (.deferred (some []))
 let s:LoopS:=⟨fn,G.n,ts,ps,assign,body,w.heap.size⟩
 let L:Loop:={ state:=.ready,pending:=none,fn,tmps:=a.tmps,params:=ps,assign,body,defers:=w.heap.size }
 let w1:=World.push (World.push w (.deferred (some []))) (.loop L)
 have hsz1:(World.push w (.deferred (some []))).heap.size=w.heap.size+1:=push_size
 let e0:Ent:=⟨some (w.heap.size+1),0,1,0,0⟩
 obtain ⟨us,v1,v2,v3⟩:=fproj_vals hs hp
 have hstep0:Step w β (World.push w (.deferred (some []))) β:=Step.push w β _
 have hstep1:Step (World.push w (.deferred (some []))) β w1 (β++[e0]):=Step.alloc _ β _ e0 (.inl (by rw [hsz1]))
 have hstep:Step w β w1 (β++[e0]):=hstep0.trans hstep1
 have hx1:∀ b,G.ext b→b < (World.push w (.deferred (some []))).heap.size:=fun b hb=>by have:=hs.extOk b hb;rw [hsz1];omega
 have hI1:Inv G.ext w1 (H++[.loop (w.heap.size+1) .ready none s vs]) (β++[e0]):=by
  refine hs1.inv.alloc hx1 _ e0 _ (.inl (by rw [hsz1])) ⟨rfl,rfl,a.tmps,us,?_,hs.size,v1.le hstep.le,v2,fun i t hi=>?_⟩
  ·have:=push_top (w:=World.push w (.deferred (some []))) (o:=.loop L)
   rwa [hsz1] at this
  ·obtain ⟨u,k1,k2⟩:=v3 i t hi
   rw [k1,k2]
 obtain ⟨res,hcall,hend⟩:=h (w.heap.size+1) s rfl rfl rfl rfl rfl
 obtain ⟨a1,a2,hu,r1,r2⟩:=hs.ev hg
 have hf:a.eval g = .func (.func f) a1 a2:=hu
 have hRel:RelL (ctx G.ext w1 (β++[e0])) (fs++[.fn (.yield (w.heap.size+1)) [] []]++cs) (a1.toList++[.func (.yield (w.heap.size+1)) #[] #[]]++a2.toList) :=
  ((r1.le hstep.le).append (show RelL (ctx G.ext w1 (β++[e0])) [.fn (.yield (w.heap.size+1)) [] []] [.func (.yield (w.heap.size+1)) #[] #[]] from ⟨_,[],rfl,⟨#[],#[],rfl,rfl,rfl⟩,rfl⟩)).append (r2.le hstep.le)
 have hcalls:=hcall.calls G.ext w1 (β++[e0]) _ hI1 (fun b hb=>Nat.lt_of_lt_of_le (hs.extOk b hb) hstep.size) hRel
 have hargs:(a1.toList++[Value.func (.yield (w.heap.size+1)) #[] #[]]++a2.toList).toArray=a1 ++ #[.func (.yield (w.heap.size+1)) #[] #[]]++a2:=by apply Array.ext';simp
 rw [hargs] at hcalls
 have hres:∃ d,(resolve a.eval (rangeCall g (w.heap.size+1)) 0).run P w1 = .ok d w1∧(invoke d.target d.args).run P w1 = .ok (.enter f (a1 ++ #[.func (.yield (w.heap.size+1)) #[] #[]]++a2)) w1:=by
  refine ⟨_,by simp only [resolve,hf,Deferred.ofValue,Sem.run_bind,Sem.run_pure,Result.andThen_ok];rfl,?_⟩
  simp only [invoke,Sem.run_bind,Sem.run_pure,Result.andThen_ok]
  have he:=callFunc_run hcall.enters (a1 ++ #[.func (.yield (w.heap.size+1)) #[] #[]]++a2) w1
  simpa [Act.eval] using he
 obtain ⟨d,hd1,hd2⟩:=hres
 refine ⟨w.heap.size+1,[coll w.heap.size],w1,d,w1,f,_,w1,run_enterLoop_outer _ _ _ _ _,hd1,fun _ _=>trivial,hd2,fun h=>by simp [fz,Fence.wide] at h,calls_fz (hcalls.mono fun e w3 he=>?_)⟩
 have hr0:¬bad G.ext β w.heap.size:=by
  rintro (hb|hb)
  ·have:=hs.extOk _ hb;omega
  ·have:=(hs.inv.sep _ hb).2;omega
 have marks:∀ {β':List Ent} {w3:World},Step w1 (β++[e0]) w3 β'→Marks G β' { a with defers:=coll w.heap.size::a.defers } w3:=by
  intro β' w3 q4
  obtain ⟨ms,m1,m2,m3,_⟩:=hs.defers
  have hnb:¬bad G.ext (β++[e0]) w.heap.size:=by
   rintro (hb|hb)
   ·exact hr0 (.inl hb)
   ·rcases Blk.append.1 hb with h1|h1
    ·exact hr0 (.inr h1)
    ·simp [e0] at h1
  have hmk:Marks G (β++[e0]) { a with defers:=coll w.heap.size::a.defers } w1:=by
   refine ⟨w.heap.size::ms,List.nodup_cons.2 ⟨fun hm=>by have:=(m3 _ hm).2.1;omega,m1⟩,by simp [m2],fun r hr=>?_,fun h=>by rw [hnm] at h;cases h⟩
   rcases List.mem_cons.1 hr with rfl|hr
   ·refine ⟨hs.step.size,Nat.lt_of_lt_of_le (by rw [hsz1];omega) hstep1.size,hnb,?_⟩
    exact (push_get (by rw [hsz1];omega)).trans push_top
   ·obtain ⟨l1,l2,l3,l4⟩:=m3 r hr
    refine ⟨l1,Nat.lt_of_lt_of_le l2 hstep.size,?_,(hstep.keep r l2 fun hb=>l3 (.inr hb)).trans l4⟩
    rintro (hb|hb)
    ·exact l3 (.inl hb)
    ·rcases Blk.append.1 hb with h1|h1
     ·exact l3 (.inr h1)
     ·simp [e0] at h1;omega
  exact hmk.step q4 rfl
 cases e with
 | outgrown=>exact he.elim
 | panicked ch =>
  obtain ⟨u,_,v,H',β',q1,_⟩:=he
  obtain ⟨_,_,_,_,_,h1,_⟩:=hend _ _ q1
  cases h1
 | returned u =>
  obtain ⟨v,H',β',q1,q2,q3,q4⟩:=he
  obtain ⟨v',st,pend,vs',x,h1,h2,h3,h4,h5⟩:=hend _ _ q1
  obtain ⟨r,p1,p2,p3,_,_,_,_,_,_,p9,p10⟩:=putObj_inv (st':=.exhausted) (pend':=pend) q3 h2
  have hl:=run_endLoop (P:=P) p1 (by rw [p2];exact h3)
  have e1:({ r with state:=.exhausted }:Loop) = { r with state:=.exhausted,pending:=pend }:=by rw [←p3]
  rw [e1,p3] at hl
  have hst:St G F (H'.set H.length (.loop (w.heap.size+1) .exhausted pend s vs')) { a with defers:=coll w.heap.size::a.defers } (w3.putObj (w.heap.size+1) (.loop { r with state:=.exhausted,pending:=pend })):=by
   have hall:Step w β (w3.putObj (w.heap.size+1) (.loop { r with state:=.exhausted,pending:=pend })) β':=(hstep.trans q4).trans p10
   exact ⟨β',p9,hs.step.trans hall,fun b hb=>Nat.lt_of_lt_of_le (hs.extOk b hb) hall.size,hs.size,marks (q4.trans p10),fun t v ht=>by
    obtain ⟨u,g1,g2⟩:=hs.get t v ht
    exact ⟨u,g1,g2.le hall.le⟩⟩
  refine ⟨pend,_,hl,?_⟩
  unfold exitOf at h4
  split at h4
  ·injection h4 with h4;subst h4;exact ⟨F,_,h5,hst⟩
  ·injection h4 with h4;subst h4;exact wpIn_ret (show lift G Q .ret _ _ from ⟨F,_,h5,hst⟩)
  ·injection h4 with h4;subst h4;exact wpIn_exit (show lift G Q (.exit _) _ _ from ⟨F,_,h5,hst⟩)
  ·cases h4
theorem jrange {g:Operand} {ps:Array Tmp} {assign body:Code} {F:Fr} {H:List AObj} {k:Kt} {f:FuncId} {fs cs:List AVal} (ts:List Nat) {vs:List AVal} (hp:fproj F ts=some vs) (hrd:(G.rd,G.nm)=(none,false)) (hg:ev F g=some (.fn (.func f) fs cs))
  (h:∀ (l:Nat) (s:LoopS),s.ts=ts→s.n=G.n→s.ps=ps→s.assign=assign→s.body=body →
   ∃ res,ACalls P f (fs++[.fn (.yield l) [] []]++cs) (H++[.loop l .ready none s vs]) res ∧
    ∀ r H',res r H'→∃ v st pend vs' x,r = .ret v∧H'[H.length]? = some (.loop l st pend s vs')∧st ≠ .busy∧exitOf pend=some x∧J P G Q (.e x k) F (H'.set H.length (.loop l .exhausted pend s vs'))) :
  J P G Q (.c (.rangeFunc g ps assign body) k) F H:=aw_range ts hp hrd hg h
theorem jround {l j:Nat} {s:LoopS} {vs args:List AVal} {H:List AObj} {E:Eff} {ts:List Nat} {N:Nat} {ps:Array Tmp} {assign body:Code} (h1:s.ts=ts) (h2:s.n=N) (h3:s.ps=ps) (h4:s.assign=assign) (h5:s.body=body)
  (hj:H[j]? = some (.loop l .ready none s vs)) (hps:Nat.beq ps.size args.length=true) (hpn:ps.toList.all (Nat.blt · N)=true)
  (h:∀ w0 β0 ext,β0.length=H.length→J P ⟨w0,β0,ext,N,[],some l,false⟩ (fun _ _ _=>False)
   (.c assign (.lp (fun F1 H1=>H1[j]? = some (.loop l .ready none s vs)∧J P ⟨w0,β0,ext,N,[],some l,false⟩ (RoundQ j H.length E) (.c body .nil) F1 (H1.set j (.loop l .busy none s vs))) .nil))
   ((ps.toList.zip args).foldl (fun F x=>x::F) (ts.zip vs)) H):AYield P l args H E:=by
 subst h1;subst h2;subst h3;subst h4;subst h5
 exact ayield_intro hj (Nat.eq_of_beq_eq_true hps) hpn h
end
end Go.AL
namespace Go.AL
open Go
def MFind:List (Value × AVal)→Value→Option AVal→Prop
 | [],_,r=>r=none
 | (k',x)::es,k,r=>(k'=k∧r=some x)∨(k'≠k∧MFind es k r)
def MPut:List (Value × AVal)→Value→AVal→List (Value × AVal)→Prop
 | [],k,v,es'=>es'=[(k,v)]
 | (k',x)::es,k,v,es'=>(k'=k∧es'=(k,v)::es)∨(k'≠k∧∃ es2,es'=(k',x)::es2∧MPut es k v es2)
def MKeys (d:TypeDesc) (es:List (Value × AVal)):Prop:=∀ p∈es,MapKept.IsKey d p.1
theorem find_rel {c:Ctx} {d:TypeDesc} {k:Value} (hk:MapKept.IsKey d k):∀ {es:List (Value × AVal)} {ms:List MapEntry} {r:Option AVal} (i:Nat),RelM c es ms→MKeys d es→MFind es k r →
  match r with
  | none=>Instr.findNow d k ms i=some none
  | some x=>∃ j m,Instr.findNow d k ms i=some (some (i+j,m.val))∧ms[j]? = some m∧m.key=k∧Rel c x m.val
 | [],ms,r,i,h,_,hf=>by
  have h1:ms=[]:=h
  have h2:r=none:=hf
  subst h1;subst h2;rfl
 | (k',x)::es,ms,r,i,h,hks,hf=>by
  obtain ⟨m,ms',rfl,h1,h2,h3⟩:=h
  obtain ⟨b,hb,hiff⟩:=MapKept.sameNow_of_keys hk (show MapKept.IsKey d m.key by rw [h1];exact hks _ (List.mem_cons_self ..))
  rcases hf with ⟨hkk,rfl⟩|⟨hne,hf⟩
  ·have:b=true:=hiff.2 (by rw [h1,hkk])
   subst this
   exact ⟨0,m,by simp [Instr.findNow,hb],rfl,by rw [h1,hkk],h2⟩
  ·have hbf:b=false:=by
    cases b with
    | false=>rfl
    | true=>exact absurd ((hiff.1 rfl).symm.trans (by rfl)) (by rw [h1];exact hne)
   subst hbf
   have ih:=find_rel hk (i+1) h3 (fun p hp=>hks p (List.mem_cons_of_mem _ hp)) hf
   cases r with
   | none=>simp only [Instr.findNow,hb];exact ih
   | some y =>
    obtain ⟨j,m',g1,g2,g3,g4⟩:=ih
    exact ⟨j+1,m',by simp only [Instr.findNow,hb];rw [g1];congr 3;omega,by simpa using g2,g3,g4⟩
theorem put_rel {c:Ctx} {d:TypeDesc} {k:Value} {v:AVal} (hk:MapKept.IsKey d k):∀ {es es':List (Value × AVal)} {ms:List MapEntry} (i:Nat),RelM c es ms→MKeys d es→MPut es k v es' →
  (Instr.findNow d k ms i=some none∧∀ u b,Rel c v u→RelM c es' (ms++[⟨k,u,b⟩])) ∨
  (∃ j m,Instr.findNow d k ms i=some (some (i+j,m.val))∧ms[j]? = some m∧m.key=k∧∀ u,Rel c v u→RelM c es' (ms.modify j fun e=>{ e with key:=k,val:=u }))
 | [],es',ms,i,h,_,hp=>by
  have h1:ms=[]:=h
  have h2:es'=[(k,v)]:=hp
  subst h1;subst h2
  exact .inl ⟨rfl,fun u b hr=>⟨_,[],rfl,rfl,hr,rfl⟩⟩
 | (k',x)::es,es',ms,i,h,hks,hp=>by
  obtain ⟨m,ms',rfl,h1,h2,h3⟩:=h
  obtain ⟨b,hb,hiff⟩:=MapKept.sameNow_of_keys hk (show MapKept.IsKey d m.key by rw [h1];exact hks _ (List.mem_cons_self ..))
  rcases hp with ⟨hkk,rfl⟩|⟨hne,es2,rfl,hp⟩
  ·have:b=true:=hiff.2 (by rw [h1,hkk])
   subst this
   exact .inr ⟨0,m,by simp [Instr.findNow,hb],rfl,by rw [h1,hkk],fun u hr=>⟨_,ms',rfl,rfl,hr,h3⟩⟩
  ·have hbf:b=false:=by
    cases b with
    | false=>rfl
    | true=>exact absurd ((hiff.1 rfl).symm.trans (by rfl)) (by rw [h1];exact hne)
   subst hbf
   rcases put_rel hk (i+1) h3 (fun p hp=>hks p (List.mem_cons_of_mem _ hp)) hp with ⟨g1,g2⟩|⟨j,m',g1,g2,g3,g4⟩
   ·exact .inl ⟨by simp only [Instr.findNow,hb];exact g1,fun u b hr=>⟨m,_,rfl,h1,h2,g2 u b hr⟩⟩
   ·refine .inr ⟨j+1,m',by simp only [Instr.findNow,hb];rw [g1];congr 3;omega,by simpa using g2,g3,fun u hr=>?_⟩
    exact ⟨m,_,rfl,h1,h2,g4 u hr⟩
section
variable {P:Program} {F:Fr} {H H':List AObj} {dst:Option Tmp} {type:TypeId} {pos:String} {after:Array Edge} {guard:Option (Nat × Bool)}
theorem map_new {t:TypeId}:DSem P .x ⟨dst,.makeMap t none,type,pos,after,guard⟩ F H (.mp H.length) (H++[.map []]):=by
 refine ⟨fun j t cs hj=>by rw [List.getElem?_append_left (List.getElem?_eq_some_iff.1 hj).1];exact hj,?_⟩
 intro ext w β ρ hI hx hκ hρ
 have h3:(execOp ρ ⟨dst,.makeMap t none,type,pos,after,guard⟩).run P w = .ok (.value (.map (some w.heap.size))) (World.push w (.map #[] 0)):=by
  simp only [execOp,Instr.makeMap,Option.map_none,Sem.run_bind,Result.andThen_ok,run_newObj,Sem.run_pure]
  rfl
 rw [h3]
 have hs:Step w β (World.push w (.map #[] 0)) (β++[⟨some w.heap.size,0,1,0,0⟩]):=Step.alloc w β _ _ (.inl rfl)
 refine ⟨_,_,β++[⟨some w.heap.size,0,1,0,0⟩],⟨rfl,rfl⟩,?_,hI.alloc hx _ _ _ (.inl rfl) ?_,hs⟩
 ·exact ⟨⟨some w.heap.size,0,1,0,0⟩,w.heap.size,by rw [←hI.len];simp,rfl,rfl,rfl⟩
 ·exact ⟨rfl,w.heap.size,#[],0,rfl,push_top,rfl⟩
theorem map_newV {t:TypeId}:DSem P .x ⟨dst,.makeMap t none,type,pos,after,guard⟩ F H (.mp H.length) (H++[.vmap []]):=by
 refine ⟨fun j t cs hj=>by rw [List.getElem?_append_left (List.getElem?_eq_some_iff.1 hj).1];exact hj,?_⟩
 intro ext w β ρ hI hx hκ hρ
 have h3:(execOp ρ ⟨dst,.makeMap t none,type,pos,after,guard⟩).run P w = .ok (.value (.map (some w.heap.size))) (World.push w (.map #[] 0)):=by
  simp only [execOp,Instr.makeMap,Option.map_none,Sem.run_bind,Result.andThen_ok,run_newObj,Sem.run_pure]
  rfl
 rw [h3]
 have hs:Step w β (World.push w (.map #[] 0)) (β++[⟨some w.heap.size,0,1,0,0⟩]):=Step.alloc w β _ _ (.inl rfl)
 refine ⟨_,_,β++[⟨some w.heap.size,0,1,0,0⟩],⟨rfl,rfl⟩,?_,hI.alloc hx _ _ _ (.inl rfl) ?_,hs⟩
 ·exact ⟨⟨some w.heap.size,0,1,0,0⟩,w.heap.size,by rw [←hI.len];simp,rfl,rfl,rfl⟩
 ·exact ⟨rfl,w.heap.size,#[],0,rfl,push_top,rfl⟩
end
section
variable {P:Program} [T:TyTab P] {F:Fr} {H H':List AObj} {dst:Option Tmp} {type:TypeId} {pos:String} {after:Array Edge} {guard:Option (Nat × Bool)}
def esOf:AObj→Option (List (Value × AVal))
 | .map es=>some es
 | .vmap es=>some (vals es)
 | _=>none
theorem esOf_rel {c:Ctx} {e:Ent} {o:AObj} {es:List (Value × AVal)} (h:esOf o=some es):RelO c e o↔RelO c e (.map es):=by
 cases o<;>simp only [esOf] at h<;>first|(cases h;exact Iff.rfl)|cases h
theorem map_of {ext:Nat→Prop} {w:World} {β:List Ent} (hI:Inv ext w H β) {j:Nat} {o:AObj} {es:List (Value × AVal)} (hH:H[j]? = some o) (hes:esOf o=some es) {u:Value} (hr:Rel (ctx ext w β) (.mp j) u) :
  ∃ e b ms clock,β[j]? = some e∧e.blk=some b∧e.gen=0∧u = .map (some b)∧w.heap[b]? = some (.map ms clock)∧RelM (ctx ext w β) es ms.toList:=by
 obtain ⟨e,b,he,h0,hb,hu⟩:=hr
 obtain ⟨_,b',ms,clock,h3,h4,h5⟩:=(esOf_rel hes).1 (hI.obj j _ e hH he)
 rw [hb] at h3;simp at h3;subst h3
 exact ⟨e,b,ms,clock,he,hb,h0,hu,h4,h5⟩
theorem map_get {t:TypeId} {x i:Operand} {j:Nat} {mo:AObj} {es:List (Value × AVal)} {k:Value} {rt rk re:TyRow} {kt et:TypeId} {r:Option AVal} {ok:Bool} {v:AVal} (hx:ev F x=some (.mp j)) (hi:ev F i=some (.v k)) (hH:H[j]? = some mo) (hes:esOf mo=some es)
  (ht:tfind T.tab t=some rt) (hd:rt.d = .map kt et) (hkt:tfind T.tab kt=some rk) (het:tfind T.tab et=some re) (hz:zeroOk re=true) (hk:MapKept.IsKey rk.d k) (hks:MKeys rk.d es) (hf:MFind es k r)
  (hv:(cond ok (.tup [r.getD (zeroA re),.v (.bool r.isSome)]) (r.getD (zeroA re)))=v):DSem P .s ⟨dst,.lookup t x i ok,type,pos,after,guard⟩ F H v H:=by
 refine ⟨rfl,?_⟩
 subst hv
 intro ext w β ρ hI hext hκ hρ
 obtain ⟨e,b,ms,clock,he,hb,h0,hu,hm,hr⟩:=map_of hI hH hes (hρ x (by simp [Op.operands]) _ hx)
 have hki:ρ i=k:=hρ i (by simp [Op.operands]) _ hi
 have hfr:=find_rel hk 0 hr hks hf
 have hund:=ty_und ht
 rw [hd] at hund
 have hres:∃ u,(execOp ρ ⟨dst,.lookup t x i ok,type,pos,after,guard⟩).run P w = .ok (.value u) w∧Rel (ctx ext w β) (cond ok (.tup [r.getD (zeroA re),.v (.bool r.isSome)]) (r.getD (zeroA re))) u:=by
  have main:∃ u0,(Instr.lookup t (ρ x) (ρ i) ok).run P w = .ok (cond ok (.tuple #[u0,.bool r.isSome]) u0) w∧Rel (ctx ext w β) (r.getD (zeroA re)) u0:=by
   cases r with
   | none =>
    refine ⟨re.z,?_,zeroA_rel hz _⟩
    simp only [Instr.lookup,hu,hki,Sem.run_bind,run_underlying hund,Result.andThen_ok,MapKept.run_getObj_map hm,MapKept.run_checkKey (ty_und hkt) hk,MapKept.run_findKey (ty_und hkt) hfr,run_zero het,Sem.run_pure]
    cases ok<;>rfl
   | some y =>
    obtain ⟨jj,m,g1,g2,g3,g4⟩:=hfr
    refine ⟨m.val,?_,g4⟩
    simp only [Instr.lookup,hu,hki,Sem.run_bind,run_underlying hund,Result.andThen_ok,MapKept.run_getObj_map hm,MapKept.run_checkKey (ty_und hkt) hk,MapKept.run_findKey (ty_und hkt) g1,Sem.run_pure]
    cases ok<;>rfl
  obtain ⟨u0,h1,h2⟩:=main
  refine ⟨cond ok (.tuple #[u0,.bool r.isSome]) u0,by simp only [execOp,Sem.run_bind,h1,Result.andThen_ok,Sem.run_pure],?_⟩
  cases ok with
  | false=>exact h2
  | true=>exact ⟨_,rfl,u0,_,rfl,h2,_,[],rfl,rfl,rfl⟩
 obtain ⟨u,h1,h2⟩:=hres
 rw [h1]
 exact came_same hI h2
theorem map_put {t:TypeId} {x i y:Operand} {o:Op} (ho:o = .mapUpdate t x i y∨o = .insert t x i y) {j:Nat} {mo mo':AObj} {es es':List (Value × AVal)} {k:Value} {v:AVal} {rt rk:TyRow} {kt et:TypeId} (hx:ev F x=some (.mp j)) (hi:ev F i=some (.v k)) (hy:ev F y=some v) (hH:H[j]? = some mo) (hes:esOf mo=some es) (hes':esOf mo'=some es')
  (ht:tfind T.tab t=some rt) (hd:rt.d = .map kt et) (hkt:tfind T.tab kt=some rk) (hk:MapKept.IsKey rk.d k) (hks:MKeys rk.d es) (hp:MPut es k v es') (hH':hsetO H j mo'=some H') :
  DSem P .x ⟨dst,o,type,pos,after,guard⟩ F H (.tup []) H':=by
 rw [hsetO_eq hH']
 refine ⟨fun m tt cs hm=>by
  rw [List.getElem?_set_ne (fun e=>by subst e;rw [hH] at hm;injection hm with hm;subst hm;cases hes)];exact hm,?_⟩
 intro ext w β ρ hI hext hκ hρ
 have hoi:∀ z,z=x∨z=i∨z=y→z∈o.operands:=by
  rintro z (rfl|rfl|rfl)<;>rcases ho with rfl|rfl<;>simp [Op.operands]
 obtain ⟨e,b,ms,clock,he,hb,h0,hu,hm,hr⟩:=map_of hI hH hes (hρ x (hoi x (.inl rfl)) _ hx)
 have hki:ρ i=k:=hρ i (hoi i (.inr (.inl rfl))) _ hi
 have hyr:=hρ y (hoi y (.inr (.inr rfl))) _ hy
 have hund:=ty_und ht
 rw [hd] at hund
 have hlt:=(Array.getElem?_eq_some_iff.1 hm).1
 have fin:∀ (o':Obj),(∀ c:Ctx,c=ctx ext { w with heap:=w.heap.setIfInBounds b o' } β→(ctx ext w β).le c→∃ ms' clock',o' = .map ms' clock'∧RelM c es' ms'.toList) →
   Came ext w β (one (.tup []) (H.set j mo')) .ret undef { w with heap:=w.heap.setIfInBounds b o' }:=by
  intro o' hg
  have hst:Step w β { w with heap:=w.heap.setIfInBounds b o' } β:=Step.write ⟨j,e,he,hb⟩ (by simp) (fun c hc=>by simp [Array.getElem?_setIfInBounds_ne (Ne.symm hc)]) rfl rfl rfl
  obtain ⟨ms',clock',rfl,hrm⟩:=hg _ rfl hst.le
  refine ⟨_,_,β,⟨rfl,rfl⟩,⟨#[],rfl,rfl⟩,hI.write he hb (by simp) (fun c hc=>by simp [Array.getElem?_setIfInBounds_ne (Ne.symm hc)]) rfl rfl rfl ?_,hst⟩
  exact (esOf_rel hes').2 ⟨h0,b,ms',clock',hb,by simp [hlt],hrm⟩
 have hexec:∀ w',(Instr.mapUpdate t (ρ x) (ρ i) (ρ y)).run P w = .ok () w'→(execOp ρ ⟨dst,o,type,pos,after,guard⟩).run P w = .ok .skip w':=by
  intro w' h
  rcases ho with rfl|rfl<;>simp only [execOp,Sem.run_bind,h,Result.andThen_ok,Sem.run_pure]
 rcases put_rel (v:=v) hk 0 hr hks hp with ⟨g1,g2⟩|⟨jj,m,g1,g2,g3,g4⟩
 ·have h1:(Instr.mapUpdate t (ρ x) (ρ i) (ρ y)).run P w = .ok () { w with heap:=w.heap.setIfInBounds b (.map (ms.push { key:=k,val:=ρ y,born:=clock }) (clock+1)) }:=by
   simp only [Instr.mapUpdate,hu,hki,Sem.run_bind,run_underlying hund,Result.andThen_ok,MapKept.run_getObj_map hm,MapKept.run_checkKey (ty_und hkt) hk,MapKept.run_findKey (ty_und hkt) g1,MapKept.run_setObj_map _ hm]
  rw [hexec _ h1]
  refine fin _ fun c hc hle=>⟨_,_,rfl,?_⟩
  rcases put_rel (v:=v) hk 0 (hr.le hle) hks hp with ⟨_,g3⟩|⟨jj,m,g1',_⟩
  ·simpa using g3 _ clock (hyr.le hle)
  ·rw [g1] at g1';cases g1'
 ·have hjm:ms[jj]? = some m:=by simpa using g2
  have h1:(Instr.mapUpdate t (ρ x) (ρ i) (ρ y)).run P w = .ok () { w with heap:=w.heap.setIfInBounds b (.map (ms.modify jj fun e=>{ e with key:=k,val:=ρ y }) clock) }:=by
   simp [Instr.mapUpdate,hu,hki,Sem.run_bind,run_underlying hund,Result.andThen_ok,MapKept.run_getObj_map hm,MapKept.run_checkKey (ty_und hkt) hk,MapKept.run_findKey (ty_und hkt) g1,hjm,g3,MapKept.run_keyThatStays hk,MapKept.run_setObj_map _ hm]
  rw [hexec _ h1]
  refine fin _ fun c hc hle=>⟨_,_,rfl,?_⟩
  rcases put_rel (v:=v) hk 0 (hr.le hle) hks hp with ⟨g1',_⟩|⟨j2,m2,g1',q2,q3,q4⟩
  ·rw [g1] at g1';cases g1'
  ·rw [g1] at g1'
   have:j2=jj:=by simp at g1';omega
   subst this
   simpa using q4 _ (hyr.le hle)
end
end Go.AL
namespace Go.AL
open Go
section
variable {P:Program}
theorem below_step {w w':World} (h:RowKit.Below w.heap.size w w') (β:List Ent) (hβ:∀ b,Blk β b→b < w.heap.size):Step w β w' β :=
 ⟨h.os,h.tape,h.output,h.size,fun b hb _=>h.block b hb,fun b hb=>.inl hb,fun j e he=>⟨e,he,Nat.le_refl _,fun _=>rfl,fun _=>rfl⟩⟩
theorem below_inv {ext:Nat→Prop} {w w':World} {H:List AObj} {β:List Ent} (hI:Inv ext w H β) (h:RowKit.Below w.heap.size w w'):Inv ext w' H β :=
 hI.upd (below_step h β fun b hb=>(hI.sep b hb).2) hI.len (fun j o e ho he=>.inl ⟨ho,he,fun b hb=>h.block b (hI.sep b ⟨j,e,he,hb⟩).2⟩) hI.uniq
  (fun b hb=>⟨(hI.sep b hb).1,Nat.lt_of_lt_of_le (hI.sep b hb).2 h.size⟩)
theorem vals_rel {c:Ctx}:∀ {xs us:List Value},RelL c (xs.map .v) us→us=xs
 | [],us,h=>h
 | x::xs,us,⟨u,us',e,r,rs⟩=>by
  subst e
  rw [vals_rel rs,show u=x from r]
theorem lib_calls {f:FuncId} {xs:List Value} {H:List AObj} {Q:Eff} (he:Enters P f)
  (h:∀ w,(∀ b o,AObj.fix b o∈H→w.heap[b]? = some o)→Calls P f xs.toArray w fun e w'=>∃ u v,e = .returned u∧(∀ c,Rel c v u)∧Q (.ret v) H∧RowKit.Below w.heap.size w w'):ACalls P f (xs.map .v) H Q:=by
 refine ⟨he,fun ext w β us hI hx hr=>?_⟩
 rw [vals_rel hr]
 refine (h w fun b o hm=>?_).mono fun e w' hq=>?_
 ·obtain ⟨j,hj,hjo⟩:=List.getElem_of_mem hm
  have hjb:j < β.length:=by rw [hI.len];exact hj
  have hfx:RelO (ctx ext w β) β[j] (.fix b o):=hI.obj j (.fix b o) _ (by rw [List.getElem?_eq_getElem hj,hjo]) (List.getElem?_eq_getElem hjb)
  exact hfx.2.2.1
 ·obtain ⟨u,v,rfl,hv,hQ,hb⟩:=hq
  exact ⟨v,H,β,hQ,hv _,below_inv hI hb,below_step hb β fun b hb=>(hI.sep b hb).2⟩
theorem lib_one {f:FuncId} {xs:List Value} {v:AVal} {u:Value} (he:Enters P f) (hv:∀ c,Rel c v u) (h:∀ w,Calls P f xs.toArray w fun e w'=>e = .returned u∧RowKit.Below w.heap.size w w'):ACalls P f (xs.map .v) [] (one v []) :=
 lib_calls he fun w _=>(h w).mono fun e w' ⟨h1,h2⟩=>⟨u,v,h1,hv,⟨rfl,rfl⟩,h2⟩
theorem lib_back {f:FuncId} {xs:List Value} {x:Value} (h:ACalls P f (xs.map .v) [] (one (.v x) [])) (w:World):Calls P f xs.toArray w fun e w'=>e = .returned x∧RowKit.Below w.heap.size w w':=by
 have hI:Inv (fun _=>False) w [] []:=⟨rfl,fun j o e h=>by simp at h,fun i j e f b h=>by simp at h,fun b ⟨j,e,h,_⟩=>by simp at h⟩
 have hr:∀ c,RelL c (xs.map .v) xs:=by
  intro c
  clear h
  induction xs with
  | nil=>rfl
  | cons x xs ih=>exact ⟨x,xs,rfl,rfl,ih⟩
 refine (h.calls (fun _=>False) w [] xs hI (fun b h=>h.elim) (hr _)).mono fun e w' he=>?_
 cases e with
 | returned u =>
  obtain ⟨v,H',β',⟨h1,rfl⟩,h2,h3,h4⟩:=he
  injection h1 with h1
  subst h1
  exact ⟨by rw [show u=x from h2],h4.os,h4.tape,h4.output,h4.size,fun b hb=>h4.keep b hb fun ⟨j,e,hj,_⟩=>by simp at hj⟩
 | panicked ch=>obtain ⟨u,_,v,H',β',⟨h1,_⟩,_⟩:=he;cases h1
 | outgrown=>exact he.elim
variable {G:Gh} {Q:APost} {F:Fr} {H:List AObj}
def yieldO (F:Fr) (o:Op):Option (Nat × List AVal) :=
 match o with
 | .call c=>match c.callee with
  | .value fo=>match ev F fo,evs F c.args.toList with
   | some (.fn (.yield l) [] []),some vs=>some (l,vs)
   | _,_=>none
  | _=>none
 | _=>none
theorem yieldO_sem {dst:Option Tmp} {o:Op} {type:TypeId} {pos:String} {after:Array Edge} {guard:Option (Nat × Bool)} {l:Nat} {args:List AVal} (h:yieldO F o=some (l,args)) {res:Eff} (hc:AYield P l args H res) :
  OpSem P ⟨dst,o,type,pos,after,guard⟩ F H res:=by
 unfold yieldO at h
 split at h
 ·rename_i c
  split at h
  ·rename_i fo hfo
   split at h
   ·rename_i l' vs hf ha
    simp only [Option.some.injEq,Prod.mk.injEq] at h
    obtain ⟨rfl,rfl⟩:=h
    obtain ⟨callee,asL,ts⟩:=c
    subst hfo
    exact yield_sem hf ha hc
   ·cases h
  ·cases h
 ·cases h
theorem jy {s s':Pt} {ops:Array Oper} {d:Tmp} {o:Op} {type:TypeId} {pos:String} {after:Array Edge} {guard:Option (Nat × Bool)} {l:Nat} {args:List AVal} {res:Eff} (hY:AYield P l args H res) (h:nextO s=some (ops,⟨some d,o,type,pos,after,guard⟩,none,s')) (ho:yieldO F o=some (l,args))
  (hg:guardA ops F ⟨some d,o,type,pos,after,guard⟩=some true) (hd:Nat.blt d G.n=true) (next:∀ r H',res r H'→∃ v,r = .ret v∧J P G Q s' ((d,v)::F) H'):J P G Q s F H :=
 jq h hg hd (yieldO_sem ho hY) next
theorem jcq {s s':Pt} {ops:Array Oper} {d:Tmp} {o:Op} {type:TypeId} {pos:String} {after:Array Edge} {guard:Option (Nat × Bool)} {f:FuncId} {args:List AVal} {res:Eff} (hY:ACalls P f args H res) (h:nextO s=some (ops,⟨some d,o,type,pos,after,guard⟩,none,s')) (ho:callO F o=some (f,args))
  (hg:guardA ops F ⟨some d,o,type,pos,after,guard⟩=some true) (hd:Nat.blt d G.n=true) (next:∀ r H',res r H'→∃ v,r = .ret v∧J P G Q s' ((d,v)::F) H'):J P G Q s F H :=
 jq h hg hd (callO_sem ho hY) next
end
end Go.AL
namespace Go.AL
open Go
section
variable {P:Program} {G:Gh} {Q:APost} {F F':Fr} {H H':List AObj} {k:Kt}
def BodyQ0 (tab:List TyRow) (rs:List ResultVar) (Q:Eff):APost
 | .ret,F,H | .normal,F,H=>∃ r,resA tab rs F H=some r∧Q (.ret r) H
 | _,_,_=>False
theorem acalls_intro0 [T:TyTab P] {f:FuncId} {fn:Func} {c:Code} {args:List AVal} {H:List AObj} {Q:Eff} {N:Nat} {rs:List ResultVar} (hf:P.funcs[f]? = some fn) (hb:fn.body=some c) (hname:(fn.name == "runtime.NumGoroutine")=false)
  (hN:fn.ntmps=N) (hl:Nat.ble args.length N=true) (hrs:fn.results.toList=rs)
  (h:∀ w0 β0 ext,β0.length=H.length→AW P ⟨w0,β0,ext,N,[],none,false⟩ c (BodyQ0 T.tab rs Q) (params 0 args) H):ACalls P f args H Q:=by
 refine ⟨⟨fn,hf,hname,by rw [hb];rfl⟩,fun ext w β us hI hx hr=>?_⟩
 have hlen:=hr.length
 have hl':=Nat.le_of_ble_eq_true hl
 refine (callsIn_wide (n:=0)).1 (callsIn_of_wp_marks hf hb trivial ?_)
 let G:Gh:=⟨w,β,ext,N,[],none,false⟩
 have hst:St G (params 0 args) H { tmps:=us.toArray++Array.replicate (fn.ntmps-us.toArray.size) undef,defers:=[] } w:=by
  refine ⟨β,hI,Step.refl w β,hx,?_,⟨[],List.nodup_nil,rfl,fun r hr=>by simp at hr,fun _=>rfl⟩,fun t v ht=>?_⟩
  ·show (us.toArray++Array.replicate (fn.ntmps-us.toArray.size) undef).size=N
   simp;omega
  ·obtain ⟨_,h1⟩:=params_get ht
   rw [Nat.sub_zero] at h1
   obtain ⟨u,h2,h3⟩:=hr.get h1
   have hlt:t < us.length:=(List.getElem?_eq_some_iff.1 h2).1
   refine ⟨u,?_,h3⟩
   show (us.toArray++Array.replicate (fn.ntmps-us.toArray.size) undef)[t]? = some u
   rw [Array.getElem?_append_left (by simpa using hlt)]
   simpa using h2
 refine wpIn_mono (h w β ext hI.len _ w hst) ?_
 have key:∀ a' w',(∃ F' H',(∃ r,resA T.tab rs F' H'=some r∧Q (.ret r) H')∧St G F' H' a' w') →
   LeavesInM Fence.wide 0 P fn a'.tmps (Ended ext w β Q) a'.defers .returning w':=by
  rintro a' w' ⟨F',H',⟨r,h1,h4⟩,β',hs⟩
  subst hrs
  obtain ⟨ms,m1,m2,m3,_⟩:=hs.defers
  refine leaves_marks (by simp) rfl rfl ms a' w' m1 (by simpa [G] using m2) m3 hs fun a2 w2 e2 hs2 _=>?_
  obtain ⟨u,h5,h6⟩:=res_run hs2 h1
  rw [e2] at h5
  exact ⟨u,h5,r,H',β',h4,h6,hs2.inv,hs2.step⟩
 intro e a' w' he
 cases e with
 | normal=>exact key a' w' he
 | ret=>exact key a' w' he
 | exit id=>obtain ⟨F',H',h1,_⟩:=he;exact h1.elim
 | goto l=>exact he.elim
 | outgrown=>exact he.elim
 | panic ch=>obtain ⟨v,F',H',β',u,h1,_⟩:=he;exact h1.elim
theorem jcalls0 [T:TyTab P] {f:FuncId} {fn:Func} {c:Code} {args:List AVal} {Q:Eff} {N:Nat} {rs:List ResultVar} (hf:P.funcs[f]? = some fn) (hb:fn.body=some c) (hname:(fn.name == "runtime.NumGoroutine")=false)
  (hN:fn.ntmps=N) (hl:Nat.ble args.length N=true) (hrs:fn.results.toList=rs)
  (h:∀ w0 β0 ext,β0.length=H.length→J P ⟨w0,β0,ext,N,[],none,false⟩ (BodyQ0 T.tab rs Q) (.c c .nil) (params 0 args) H):ACalls P f args H Q :=
 acalls_intro0 hf hb hname hN hl hrs h
theorem jret0 {tab:List TyRow} {rs:List ResultVar} {E:Eff} {r:AVal} (h1:resA tab rs F H=some r) (h2:E (.ret r) H):J P G (BodyQ0 tab rs E) (.e .ret .nil) F H:=⟨r,h1,h2⟩
theorem jend0 {tab:List TyRow} {rs:List ResultVar} {E:Eff} {r:AVal} (h1:resA tab rs F H=some r) (h2:E (.ret r) H):J P G (BodyQ0 tab rs E) (.e .normal .nil) F H:=⟨r,h1,h2⟩
def RoundI {ι:Type} (I:ι→Prop) (ts:List Nat) (V:ι→List AVal) (HH:ι→List AObj) (μ:ι→Nat) (i:ι) (F':Fr) (H':List AObj):Prop:=∃ i',I i'∧fproj F' ts=some (V i')∧H'=HH i'∧μ i' < μ i
theorem jloopI {c:Code} {ι:Type} (I:ι→Prop) (ts:List Nat) (V:ι→List AVal) (HH:ι→List AObj) (μ:ι→Nat) (i0:ι) (hI:I i0) (h0:fproj F ts=some (V i0)) (hH:H=HH i0)
  (round:∀ i,I i→J P G Q (.c c (.lp (RoundI I ts V HH μ i) k)) (ts.zip (V i)) (HH i)):J P G Q (.c (.loop c) k) F H :=
 aw_loopI I ts V HH μ i0 hI h0 hH round
theorem jnextI {ι:Type} {I:ι→Prop} {ts:List Nat} {V:ι→List AVal} {HH:ι→List AObj} {μ:ι→Nat} {i:ι} (i':ι) (hI:I i') (hp:fproj F ts=some (V i')) (hH:H=HH i') (hμ:μ i' < μ i):J P G Q (.e .normal (.lp (RoundI I ts V HH μ i) k)) F H :=
 ⟨i',hI,hp,hH,hμ⟩
theorem jlp {R:Fr→List AObj→Prop} (h:R F H):J P G Q (.e .normal (.lp R k)) F H:=h
theorem jrend {j n:Nat} {E:Eff} {x:AExit} {l:Nat} {s:LoopS} {vs:List AVal} {H1:List AObj} (jump:Option Code) (h1:jumpOf x=some jump) (h2:H[j]? = some (.loop l .busy none s vs)) (h3:hsetO H j (.loop l (cond jump.isNone .ready .done) jump s vs)=some H1)
  (h4:finish n [] true H1 (.v (.bool jump.isNone))=some (.v (.bool jump.isNone),H')) (h5:E (.ret (.v (.bool jump.isNone))) H'):J P G (RoundQ j n E) (.e x .nil) F H :=
 ⟨jump,l,s,vs,H1,H',true,h1,h2,hsetO_eq h3,h4,h5⟩
theorem jrendW {j n:Nat} {E:Eff} {x:AExit} {l:Nat} {s:LoopS} {vs:List AVal} {H1:List AObj} (wk:Bool) (jump:Option Code) (h1:jumpOf x=some jump) (h2:H[j]? = some (.loop l .busy none s vs)) (h3:hsetO H j (.loop l (cond jump.isNone .ready .done) jump s vs)=some H1)
  (h4:finish n [] wk H1 (.v (.bool jump.isNone))=some (.v (.bool jump.isNone),H')) (h5:E (.ret (.v (.bool jump.isNone))) H'):J P G (RoundQ j n E) (.e x .nil) F H :=
 ⟨jump,l,s,vs,H1,H',wk,h1,h2,hsetO_eq h3,h4,h5⟩
end
end Go.AL
namespace Go.AL
open Go
section
variable {P:Program} [T:TyTab P] {F:Fr} {H:List AObj} {dst:Option Tmp} {type:TypeId} {pos:String} {after:Array Edge} {guard:Option (Nat × Bool)} {t yt:TypeId} {x:Operand} {r:TyRow} {ms:Array (String × TypeId)}
theorem eq_nilI (hx:ev F x=some (.v .nilIface)) (ht:tfind T.tab t=some r) (hd:r.d = .interface ms):DSem P .p ⟨dst,.binOp .eql t x (.const .nilIface) yt,type,pos,after,guard⟩ F H (.v (.bool true)) H:=by
 refine ⟨rfl,fun H'=>Says.sem (says_bin (b:=.v .nilIface) hx rfl (fun c u u' w r1 r2=>?_) ⟨_,rfl⟩) H'⟩
 cases (r1:u=_);cases (r2:u'=_)
 have hu:=ty_und ht
 rw [hd] at hu
 have h:∀ d:Nat,(Op.equalIn (d+1) t .nilIface .nilIface).run P w = .ok true w:=fun d=>by simp [Op.equalIn,run_underlying hu]
 have hg:(eqGuard .eql t x (.const .nilIface) .nilIface .nilIface).run P w = .ok () w:=by simp [eqGuard]
 simp only [Sem.run_bind,hg,Result.andThen_ok,binOp]
 simp [Op.equal,Op.maxDepth,h 9999]
theorem eq_someI {tx:TypeId} {y:Value} (hx:ev F x=some (.v (.iface tx y))) (ht:tfind T.tab t=some r) (hd:r.d = .interface ms):DSem P .p ⟨dst,.binOp .eql t x (.const .nilIface) yt,type,pos,after,guard⟩ F H (.v (.bool false)) H:=by
 refine ⟨rfl,fun H'=>Says.sem (says_bin (b:=.v .nilIface) hx rfl (fun c u u' w r1 r2=>?_) ⟨_,rfl⟩) H'⟩
 cases (r1:u=_);cases (r2:u'=_)
 have hu:=ty_und ht
 rw [hd] at hu
 have h:∀ d:Nat,(Op.equalIn (d+1) t (.iface tx y) .nilIface).run P w = .ok false w:=fun d=>by simp [Op.equalIn,run_underlying hu]
 have hg:(eqGuard .eql t x (.const .nilIface) (.iface tx y) .nilIface).run P w = .ok () w:=by simp [eqGuard]
 simp only [Sem.run_bind,hg,Result.andThen_ok,binOp]
 simp [Op.equal,Op.maxDepth,h 9999]
end
theorem jbs {P:Program} {G:Gh} {Q:APost} {F F':Fr} {H:List AObj} (σ:List Nat) {f:FuncId} {args0 args:List AVal} {v v':AVal} {H0:List AObj} (hc:ACalls P f args0 H0 (one v H0)) {s s':Pt} {ops:Array Oper} {dst:Option Tmp} {o:Op} {type:TypeId} {pos:String} {after:Array Edge} {guard:Option (Nat × Bool)} {kk:Option K}
  (h:nextO s=some (ops,⟨dst,o,type,pos,after,guard⟩,kk,s')) (ho:callO F o=some (f,args)) (hg:guardA ops F ⟨dst,o,type,pos,after,guard⟩=some true) (hσ:sigA σ H H0 args0 args)
  (hv:nrm (rnV (tau σ H.length) v)=some v') (hH:putBack (tau σ H.length) σ H H0=H) (hk:okK .s kk=true) (hp:putA G.n dst v' F=some F') (next:J P G Q s' F' H):J P G Q s F H:=by
 refine jo (kd:=.s) h hg ⟨rfl,?_⟩ hk hp next
 obtain ⟨h1,h2,h3,h4,h5,h6⟩:=hσ
 have hf:=hc.from σ h2 h3 h4 h5 (fun i j hij=>by
  have:=congrArg (fun l=>l[i]?) h6
  simp only [List.getElem?_map,hij,Option.map_some] at this
  cases hi:H0[i]? with
  | none=>rw [hi] at this;cases this
  | some o=>rw [hi] at this;simpa using this)
 rw [h1] at hf
 refine callO_sem ho (hf.mono ?_)
 rintro r G ⟨r0,Ho,⟨rfl,rfl⟩,_,rfl,rfl⟩
 exact ⟨by rw [nrm_eq _ hv],hH⟩
end Go.AL
namespace Go.AL
open Go
def allOrd (ops:Array Oper):Nat→Array Bool→List Nat→List (List Nat)
 | 0,_,acc=>[acc.reverse]
 | fuel+1,listed,acc=>match Region.ready .any ops listed with
  | []=>[acc.reverse]
  | rs=>rs.flatMap fun i=>allOrd ops fuel (listed.setIfInBounds i true) (i::acc)
theorem go_mem (ops:Array Oper):∀ (fuel t:Nat) (listed:Array Bool) (acc:List Nat),Region.linearise.go .any ops fuel t listed acc∈allOrd ops fuel listed acc
 | 0,t,listed,acc=>by simp [Region.linearise.go,allOrd]
 | fuel+1,t,listed,acc=>by
  simp only [Region.linearise.go]
  change (match (Region.ready .any ops listed)[t % (Region.ready .any ops listed).length]? with
   | some i=>Region.linearise.go .any ops fuel (t / (Region.ready .any ops listed).length) (listed.setIfInBounds i true) (i::acc)
   | none=>acc.reverse)∈_
  unfold allOrd
  cases hr:Region.ready .any ops listed with
  | nil=>simp
  | cons x xs =>
   have hlt:t % (x::xs).length < (x::xs).length:=Nat.mod_lt _ (by simp)
   rw [List.getElem?_eq_getElem hlt]
   exact List.mem_flatMap.2 ⟨_,List.getElem_mem hlt,go_mem ops fuel _ _ _⟩
theorem ops_list {F:Fence} {n:Nat} {P:Program} {ops:Array Oper} {Q:Exit→Act→World→Prop}:∀ (L:List Nat) (a:Act) (w:World),wpListIn F n P ops Q (L.filterMap fun i=>ops[i]?) a w→wpOpsIn F n P ops Q L a w
 | [],a,w,h=>h
 | i::L,a,w,h=>by
  simp only [wpOpsIn]
  cases ho:ops[i]? with
  | none =>
   rw [List.filterMap_cons,ho] at h
   exact ops_list L a w h
  | some o =>
   rw [List.filterMap_cons,ho] at h
   simp only [wpListIn] at h
   simp only
   split
   ·rename_i hw
    rw [if_pos hw] at h
    exact Oper.wpIn_mono (fun a w=>ops_list L a w) h
   ·rename_i hw
    rw [if_neg hw] at h
    exact ⟨h.1,ops_list L _ _ h.2⟩
section
variable {P:Program} {G:Gh} {Q:APost} {F:Fr} {H:List AObj} {k:Kt}
theorem jorders [T:TyTab P] {id:Nat} {l:List Oper} {Ls:List (List Nat)} (hL:allOrd l.toArray l.length (Array.replicate l.length false) []=Ls) (h:∀ L∈Ls,J P G Q (.l l.toArray (L.filterMap fun i=>l[i]?) k) F H):J P G Q (.c (.region id l.toArray true) k) F H:=by
 intro a w hs
 refine wpIn_region_draw fun t=>?_
 have hm:Region.schedule (P.follows .mixedOrders) l.toArray t=Region.linearise.go .any l.toArray l.length t (Array.replicate l.length false) []:=by
  simp [Region.schedule,T.mixed,Region.linearise]
 rw [hm]
 refine ops_list _ a _ ?_
 have hmem:=go_mem l.toArray l.length t (Array.replicate l.length false) []
 rw [hL] at hmem
 have e:∀ L:List Nat,(L.filterMap fun i=>l.toArray[i]?)=L.filterMap fun i=>l[i]?:=fun L=>by simp
 rw [e]
 obtain ⟨β,hs⟩:=hs
 exact awl_sound _ F H (h _ hmem) a _ ⟨β,hs.world (hs.inv.same (drew_same w)) ((drew_same w).step β)⟩
theorem jord2 [T:TyTab P] {id:Nat} {l:List Oper} {L1 L2:List Nat} {l1 l2:List Oper} (hL:allOrd l.toArray l.length (Array.replicate l.length false) []=[L1,L2]) (e1:(L1.filterMap fun i=>l[i]?)=l1) (e2:(L2.filterMap fun i=>l[i]?)=l2)
  (h1:J P G Q (.l l.toArray l1 k) F H) (h2:J P G Q (.l l.toArray l2 k) F H):J P G Q (.c (.region id l.toArray true) k) F H :=
 jorders hL fun L hm=>by
  rcases List.mem_cons.1 hm with rfl|hm
  ·rw [e1];exact h1
  ·rw [List.mem_singleton.1 hm,e2];exact h2
end
end Go.AL
end
section
namespace Go.AL
open Go Go.ChangeShapes Go.RowKit
section
variable {P:Program}
def fixes (fx:List (Nat × Obj)):List AObj:=fx.map fun p=>.fix p.1 p.2
def noEnt:Ent:={ blk:=none,gen:=0 }
theorem noBlk (n:Nat) (b:Nat):¬Blk (List.replicate n noEnt) b:=by
 rintro ⟨j,e,h,hb⟩
 have:=List.mem_of_getElem? h
 rw [(List.mem_replicate.1 this).2] at hb
 cases hb
theorem out_leF (w:World) (n:Nat):(out w).le (ctx (fun _=>False) w (List.replicate n noEnt)) where
 old:=fun b hb _=>⟨hb,fun h=>by
  rcases h with h|h
  ·exact h
  ·exact noBlk n b h,.inl rfl⟩
 ents:=fun j e h=>by simp at h
theorem law_callsF {f:FuncId} {asL:List AVal} {args:Array Value} {W:World} {x:Value} (fx:List (Nat × Obj)) (hA:ACalls P f asL (fixes fx) (one (.v x) (fixes fx)))
  (hf:∀ p∈fx,W.heap[p.1]? = some p.2∧∀ d,p.2 ≠ .deferred d) (hR:RelL (out W) asL args.toList) :
  Calls P f args W fun e W'=>e = .returned x∧Below W.heap.size W W':=by
 have hI:Inv (fun _=>False) W (fixes fx) (List.replicate fx.length noEnt):=by
  refine ⟨by simp [fixes],fun j o e h he=>?_,fun i j e f b h _ hb _=>absurd ⟨i,e,h,hb⟩ (noBlk _ b),fun b h=>absurd h (noBlk _ b)⟩
  obtain rfl:e=noEnt:=(List.mem_replicate.1 (List.mem_of_getElem? he)).2
  unfold fixes at h
  rw [List.getElem?_map] at h
  obtain ⟨p,hp,rfl⟩:=Option.map_eq_some_iff.1 h
  obtain ⟨h1,h2⟩:=hf p (List.mem_of_getElem? hp)
  refine ⟨rfl,rfl,h1,h2,?_,(Array.getElem?_eq_some_iff.1 h1).1⟩
  rintro (h3|h3)
  ·exact h3
  ·exact noBlk _ _ h3
 have h:=hA.calls (fun _=>False) W (List.replicate fx.length noEnt) args.toList hI (fun b h=>h.elim) (RelL.le (out_leF W _) _ _ hR)
 rw [Array.toArray_toList] at h
 refine h.mono fun e W' he=>?_
 cases e with
 | returned u =>
  obtain ⟨v,H',β',⟨h1,rfl⟩,h2,h3,h4⟩:=he
  injection h1 with h1
  subst h1
  have hu:u=x:=h2
  exact ⟨by rw [hu],h4.os,h4.tape,h4.output,h4.size,fun k hk=>h4.keep k hk (noBlk _ k)⟩
 | panicked ch=>obtain ⟨u,_,v,H',β',⟨h1,_⟩,_⟩:=he;cases h1
 | outgrown=>exact he.elim
theorem shaped_int {w:World} {g:Nat} {t:TypeId} {zero:Array Value} {k:IntKind} (h:w.ShapedOpen P) (hg:g < P.globals.size)
  (h0:((begin P (fun _ _=>0) default).world.heap[g]?).bind Obj.row? = some (zero,t)) (hz:zero.size=1)
  (hb:P.buildable t=true) (hc:P.cellTypes P.depth t=some [t]) (hu:P.underlying t=some (.int k)) :
  ∃ m,w.heap[g]? = some (.cells #[.int k m] t):=by
 obtain ⟨m,hm⟩:=Go.Proofs.cell_of_shapedOpen_int h hg h0 hz hb hc hu
 obtain ⟨cs,hh,hs,_⟩:=h.1 g zero t hg h0
 refine ⟨m,?_⟩
 rw [hh]
 have h1:cs.size=1:=by omega
 simp only [World.cell?,hh] at hm
 simp at hm
 congr 2
 apply Array.ext (by simpa using h1)
 intro i h2 h3
 have:i=0:=by simp at h3;omega
 subst this
 have:=Array.getElem?_eq_some_iff.1 hm
 simp [this.2]
variable {H:Type} {enc:TypeId × Value→H}
theorem returnsInHanded_and_shaped {a:Assume} {C:Checked} {os:Os} {f:FuncId} {fn:Func} {s:ChangeSpec} {conds:List PathCond} {apart fresh handsOn again:Bool} {X:World→Array Value→Prop}
  (hX:∀ (w w':World) (args:Array Value),w.heap=w'.heap→X w args→X w' args)
  (own:ownKnob C.prog.godebug=none) (started:os.Started) (noInit:C.prog.inits.idxOf? f=none) (hfn:C.prog.funcs[f]? = some fn)
  (witness:∃ (w:World) (tape:Tape) (i:Input),w.os=os∧(w.forCall tape i).Shaped C.prog∧i.vars=[]∧Input.okWide C.prog (w.forCall tape i) .any w.heap.size f i ∧
   ((s.pre enc C.prog fn conds apart (w.forCall tape i).memory i.args∧X (w.forCall tape i).memory i.args)∧sizedMet enc C.prog fn (OpenSpec.ofChange s) apart (w.forCall tape i).memory i.args)∧a.holds C.prog (lone (Frame.enter C.prog f i.args .normal) [] (w.forCall tape i)))
  (contract:∀ (W:World) (base:Nat) (args:Array Value) (ds gs:List (DataW H)) (before:List MemPlace),
   (∀ (j:Nat) t v,fn.params[j]? = some t→args[j]? = some v→Value.okWide C.prog W .any base t v) →
   DataW.Whole enc C.prog fn.params.toList s.vars apart W args.toList ds gs before →
   X W args→W.ShapedOpen C.prog →
   Calls C.prog f args W fun e W'=>∃ v,e = .returned v∧s.post enc C.prog fn apart fresh handsOn again W args v W') :
  ReturnsInHanded a C os f .any (fun w args=>(s.pre enc C.prog fn conds apart w args∧X w args)∧sizedMet enc C.prog fn (OpenSpec.ofChange s) apart w args) (s.post enc C.prog fn apart fresh handsOn again):=by
 refine returnsInHanded_of_calls own started noInit witness ?_
 intro w tape i _ hsh _ hok hpre hholds
 obtain ⟨_,_,_,fn',hfn',_,_,_,_,hval⟩:=hok
 have e:fn'=fn:=Option.some.inj (hfn'.symm.trans hfn)
 subst e
 obtain ⟨⟨⟨ds,gs,before,hw,hc⟩,hx⟩,hz⟩:=hpre
 have hw':=DataW.Whole.of_heap (w':=w.forCall tape i) (by rfl) hw
 refine (contract (w.forCall tape i) w.heap.size i.args ds gs before hval hw' (hX _ _ _ (by rfl) hx) hsh).mono fun e W' ⟨v,he,hp⟩=>?_
 subst he
 exact ChangeSpec.post_blind hp
end
end Go.AL
end
section
namespace Go.AL
open Go
section
variable {P:Program}
def encB (c:UInt8):AVal:=.v (.int .u8 c.toNat)
theorem text_at (l:List UInt8) (i:Nat):(Lib.strCells ⟨l.toArray⟩)[i]? = (l[i]?).map fun c=>Value.int .u8 c.toNat:=by
 simp [Lib.strCells]
theorem text_rel (c:Ctx) (l:List UInt8):RelR c 1 (fun i=>(Lib.strCells ⟨l.toArray⟩)[i]?) 0 (l.map encB):=by
 refine RelR.of_get fun i a ha=>?_
 rw [List.getElem?_map] at ha
 obtain ⟨x,hx,rfl⟩:=Option.map_eq_some_iff.1 ha
 refine ⟨.int .u8 x.toNat,rfl,rfl,fun q hq=>?_⟩
 have:q=0:=by omega
 subst this
 simp only [Nat.zero_add,Nat.mul_one,Nat.add_zero]
 rw [text_at,hx];rfl
theorem text_size (l:List UInt8):ByteArray.size ⟨l.toArray⟩=l.length:=rfl
theorem append_text [T:TyTab P] {dst:Option Tmp} {t tx:TypeId} {x y:Operand} {type:TypeId} {pos:String} {after:Array Edge} {guard:Option (Nat × Bool)} {F:Fr} {H:List AObj} {j g:Nat} {xs:List AVal} {l:List UInt8} {e:TypeId} {r r' rx:TyRow}
  (hx:ev F x=some (.arr j g)) (hj:H[j]? = some (.arr g e 1 xs)) (hy:ev F y=some (.v (.string ⟨l.toArray⟩))) (ht:tfind T.tab t=some r') (hd:r'.d = .slice e) (he:tfind T.tab e=some r) (htx:tfind T.tab tx=some rx) (hdx:rx.d = .string)
  (hs1:r.size=1) (hb1:r.bytes=1) (hz:r.z = .int .u8 0) (ho:ElemsOk 1 xs) (h47:xs.length+l.length≤140737488355328) :
  DSem P .x ⟨dst,.call { callee:=.builtin .append,args:=#[x,y],argTypes:=#[t,tx] },type,pos,after,guard⟩ F H (.arr j (g+1)) (H.set j (.arr (g+1) e 1 (xs++l.map encB))):=by
 refine ⟨fun i t cs hi=>?_,?_⟩
 ·by_cases hij:i=j
  ·subst hij;rw [hj] at hi;cases hi
  ·rw [List.getElem?_set_ne (by omega)];exact hi
 intro ext w β ρ hI hext hκ hρ
 have hr0:=hρ x (by simp [Op.operands,Call.operands]) _ hx
 obtain ⟨A1,m1,us,u1,u2,u3,u4,u5⟩:=src_cells hI (.arr hj) ho hr0
 obtain ⟨_,ent,hent,_,hcond⟩:=id hr0
 obtain ⟨k1,k0,k2,k3,k4,k5⟩:=hI.obj _ _ ent hj hent
 obtain ⟨c1,c2⟩:=hcond k1
 have v1:ρ y = .string ⟨l.toArray⟩:=hρ y (by simp [Op.operands,Call.operands]) _ hy
 obtain ⟨i,i1,i2,i3,i4⟩:=ty_info he
 rw [hs1] at i3
 rw [hb1] at i4
 rw [hz] at i2
 have hu':P.underlying t=some (.slice e):=by rw [ty_und ht,hd]
 have hk:P.underlying tx=some .string:=by rw [ty_und htx,hdx]
 rw [Nat.mul_one] at u2
 have hvl:(Lib.strCells ⟨l.toArray⟩).length=l.length:=by simp [Lib.strCells]
 have hgen0:ent.gen≠0:=by omega
 have fin:∀ (w1:World) (bo:Option Nat) (cap:Nat) (A:Option Addr),Step w β w1 (β.set j ⟨bo,g+1,1,cap,(xs++l.map encB).length⟩) →
   (∀ c,c < w.heap.size→ent.blk≠some c→w1.heap[c]? = w.heap[c]?) →
   ((bo=some w.heap.size∧w.heap.size < w1.heap.size)∨bo=none∨bo=ent.blk)→(xs++l.map encB).length≤cap →
   (match bo with|none=>(xs++l.map encB).length=0∧cap=0|some b=>A=some ⟨b,0,none⟩∧∃ cs,w1.heap[b]? = some (.cells cs e (0,0))∧cs.size=cap*1∧RelR { (ctx ext w β) with β:=[] } 1 (fun i=>cs[i]?) 0 (xs++l.map encB)) →
   Came ext w β (one (.arr j (g+1)) (H.set j (.arr (g+1) e 1 (xs++l.map encB)))) .ret (.slice A (xs++l.map encB).length cap) w1:=by
  intro w1 bo cap A hst hk' hbo hcap hm
  have hjlt:=(List.getElem?_eq_some_iff.1 hent).1
  refine ⟨_,_,_,⟨rfl,rfl⟩,?_,hI.set hext hent hst hk' hbo ?_,hst⟩
  ·refine ⟨rfl,⟨bo,g+1,1,cap,(xs++l.map encB).length⟩,by rw [List.getElem?_set_self hjlt],Nat.le_refl _,fun _=>⟨hcap,?_⟩⟩
   cases bo with
   | none=>obtain ⟨h1,h2⟩:=hm;subst h2;exact ⟨h1,A,by rw [h1]⟩
   | some b=>obtain ⟨h1,_⟩:=hm;rw [h1]
  ·refine ⟨rfl,by omega,rfl,rfl,hcap,?_⟩
   cases bo with
   | none=>exact hm.2
   | some b=>obtain ⟨h1,cs,h2,h3,h4⟩:=hm;exact ⟨cs,h2,h3,h4.le (hst.le (ext:=ext)).bare _ _ _ _⟩
 have hlen:(xs++l.map encB).length=xs.length+l.length:=by simp
 have h63:(xs.length+l.length)*1≤140737488355328:=by omega
 -- a new row
 have new:∀ (cap:Nat),xs.length+l.length≤cap →
   (execOp ρ ⟨dst,.call { callee:=.builtin .append,args:=#[x,y],argTypes:=#[t,tx] },type,pos,after,guard⟩).run P w =
    .ok (.value (.slice (some ⟨w.heap.size,0,none⟩) (xs.length+l.length) cap)) (World.push w.drew (.cells (us.toArray++(Lib.strCells ⟨l.toArray⟩).toArray++Builtin.zeroCells (Value.int .u8 0).cells (cap-(xs.length+l.length))) e)) →
   Upon P ext w β (one (.arr j (g+1)) (H.set j (.arr (g+1) e 1 (xs++l.map encB)))) ((execOp ρ ⟨dst,.call { callee:=.builtin .append,args:=#[x,y],argTypes:=#[t,tx] },type,pos,after,guard⟩).run P w):=by
  intro cap hcap2 h4
  rw [h4,←hlen]
  refine fin _ (some w.heap.size) cap _ ?_ ?_ (.inl ⟨rfl,?_⟩) (by rw [hlen];exact hcap2) ⟨rfl,_,push_top,?_,?_⟩
  ·exact ((drew_same w).step β).trans (Step.move (w:=w.drew) _ hent hgen0 (by simp only;omega) (.inl rfl))
  ·intro c hc _;exact push_get (w:=w.drew) hc
  ·rw [push_size];show w.heap.size < w.heap.size+1;omega
  ·have hz1:(Value.int IntKind.u8 0).cells.size=1:=rfl
   simp only [Array.size_append,List.size_toArray,size_zeroCells,u2,hvl,hz1,hlen]
   omega
  ·refine rows_append u4 (text_rel _ l) (by rw [Nat.mul_one];exact u2) fun i hi=>?_
   rw [List.length_map,Nat.mul_one] at hi
   rw [Array.getElem?_append_left (by simp [u2,hvl];omega)]
   simp
 have hfit:=fun (old:Nat) (h:old < xs.length+l.length)=>growslice_fits (old:=old) h (by rw [i4];exact h63:(xs.length+l.length)*i.bytes≤140737488355328)
 cases hb':ent.blk with
 | none =>
  rw [hb'] at c2 k5
  obtain ⟨c3,A,hu⟩:=c2
  have hxs:xs=[]:=List.length_eq_zero_iff.1 (by omega)
  subst hxs
  have hus:us=[]:=List.length_eq_zero_iff.1 (by simpa using u2)
  subst hus
  cases l with
  | nil =>
   have hf:=Lib.run_firstCells_string (P:=P) w 1 ⟨#[]⟩
   have h4:(execOp ρ ⟨dst,.call { callee:=.builtin .append,args:=#[x,y],argTypes:=#[t,tx] },type,pos,after,guard⟩).run P w = .ok (.value (.slice A 0 0)) w:=by
    simp only [execOp,resolve,invoke,builtin,Sem.run_bind,Sem.run_pure,Result.andThen_ok,List.map_toArray,List.map_cons,List.map_nil,hu,v1]
    have hs0:ByteArray.size { data:=#[] }=0:=rfl
    rw [hs0] at hf
    cases A<;>simp [Builtin.append_,run_underlying hu',run_underlying hk,sizeOf,typeInfo,i1,i3,Builtin.lenOf,hs0,hf,storeCells,Lib.strCells]
   rw [h4]
   exact fin w none 0 A (Step.regen hent hgen0 (by simp only;omega) (.inl rfl)) (fun _ _ _=>rfl) (.inr (.inl rfl)) (Nat.le_refl _) ⟨rfl,rfl⟩
  | cons a l' =>
   generalize hl:a::l'=l at *
   have hpos:0 < l.length:=by rw [←hl];simp
   simp only [List.length_nil,Nat.zero_add] at new hlen h47 h63 hfit ⊢
   cases A with
   | none =>
    have hr:=run_append_nil_string (P:=P) w t tx type e i (.int .u8 0) hu' hk i1 i2 ⟨l.toArray⟩ (by rw [text_size];omega) (by rw [text_size];omega) (by rw [text_size,i4];omega)
    have e1:(ByteArray.data ⟨l.toArray⟩).map (fun b=>Value.int .u8 b.toNat)=(Lib.strCells ⟨l.toArray⟩).toArray:=by
     apply Array.ext'
     simp [Lib.strCells]
    rw [e1,text_size] at hr
    refine new (grownCap w l.length 0 e) (grownCap_ge w l.length 0 e) ?_
    rw [show (([]:List Value).toArray++(Lib.strCells ⟨l.toArray⟩).toArray)=(Lib.strCells ⟨l.toArray⟩).toArray from by simp]
    simp only [execOp,resolve,invoke,builtin,Sem.run_bind,Sem.run_pure,Result.andThen_ok,List.map_toArray,List.map_cons,List.map_nil,hu,v1]
    rw [hr]
    rfl
   | some b =>
    have hr:=Lib.run_append_grow_string (P:=P) w t tx type e i (.int .u8 0) hu' hk i1 i2 b 0 0 [] (by simp) (fun j v h=>by simp at h) ⟨l.toArray⟩ (by rw [text_size];omega) (by rw [text_size];omega) (by rw [text_size];have:=hfit 0 hpos;simpa using this)
    refine new (grownCap w l.length 0 e) (grownCap_ge w l.length 0 e) ?_
    rw [text_size,Nat.zero_add] at hr
    simp only [execOp,resolve,invoke,builtin,Sem.run_bind,Sem.run_pure,Result.andThen_ok,List.map_toArray,List.map_cons,List.map_nil,hu,v1,hr]
    rfl
 | some bk =>
  rw [hb'] at c2 k5
  rw [k3] at c2
  obtain ⟨cs,w1,w2,w3⟩:=k5
  rw [Nat.mul_one] at w2
  by_cases hroom:xs.length+l.length≤ent.cap
  ·have hst:=Lib.run_append_room_string (P:=P) w t tx type e i hu' hk i1 i3 bk xs.length ent.cap cs w1 ⟨l.toArray⟩ (by rw [text_size];exact hroom) (by rw [text_size];omega)
   rw [text_size] at hst
   generalize hcs:(cs.toList.take xs.length++Lib.strCells ⟨l.toArray⟩++cs.toList.drop (xs.length+l.length)).toArray=cs' at hst
   have h4:(execOp ρ ⟨dst,.call { callee:=.builtin .append,args:=#[x,y],argTypes:=#[t,tx] },type,pos,after,guard⟩).run P w =
     .ok (.value (.slice (some ⟨bk,0,none⟩) (xs++l.map encB).length ent.cap)) (w.setRow bk cs'):=by
    simp only [execOp,resolve,invoke,builtin,Sem.run_bind,Sem.run_pure,Result.andThen_ok,List.map_toArray,List.map_cons,List.map_nil,c2,v1,hst,hlen]
   rw [h4]
   refine fin _ (some bk) ent.cap _ ?_ ?_ (.inr (.inr hb'.symm)) (by rw [hlen];exact hroom) ⟨rfl,cs',setRow_get w1,?_,?_⟩
   ·have s1:Step w β (w.setRow bk cs') β:=Step.write ⟨j,ent,hent,hb'⟩ (by simp) (fun c hc=>setRow_other w bk c cs' hc) rfl rfl rfl
    exact s1.trans (Step.regen hent hgen0 (by simp only;omega) (.inr hb'.symm))
   ·intro c _ hne;exact setRow_other w bk c cs' (fun h=>hne (by rw [h];exact hb'))
   ·rw [←hcs]
    simp only [List.size_toArray,List.length_append,List.length_take,List.length_drop,Array.length_toList,hvl,w2]
    omega
   ·refine rows_append (us:=cs.toList.take xs.length) (vs:=Lib.strCells ⟨l.toArray⟩) (relR_rd w3 fun i hi=>?_) (text_rel _ l) ?_ fun i hi=>?_
    ·rw [Nat.mul_one] at hi
     show (cs.toList.take _)[i]? = _
     rw [List.getElem?_take,if_pos hi];simp
    ·simp [w2];omega
    ·rw [List.length_map,Nat.mul_one] at hi
     show cs'[i]? = _
     rw [←hcs]
     simp only [List.getElem?_toArray]
     rw [List.getElem?_append_left]
     simp only [List.length_append,List.length_take,Array.length_toList,hvl,w2]
     omega
  ·rcases u5 with h0|⟨b,o,hA,holds⟩
   ·subst h0
    have hus:us=[]:=List.length_eq_zero_iff.1 (by simpa using u2)
    subst hus
    simp only [List.length_nil,Nat.zero_add] at *
    have hr:=Lib.run_append_grow_string (P:=P) w t tx type e i (.int .u8 0) hu' hk i1 i2 ⟨bk,0,none⟩ 0 ent.cap [] (by simp) (fun j v h=>by simp at h) ⟨l.toArray⟩ (by rw [text_size];omega) (by rw [text_size];omega) (by rw [text_size];have:=hfit ent.cap (by omega);simpa using this)
    refine new (grownCap w l.length ent.cap e) (grownCap_ge w l.length ent.cap e) ?_
    rw [text_size,Nat.zero_add] at hr
    simp only [execOp,resolve,invoke,builtin,Sem.run_bind,Sem.run_pure,Result.andThen_ok,List.map_toArray,List.map_cons,List.map_nil,c2,v1,hr]
    rfl
   ·have hA2:A1=some ⟨bk,0,none⟩:=by rw [c2] at u1;injection u1 with e1;exact e1.symm
    rw [hA2] at hA
    injection hA with hA
    injection hA with hA1 hA3
    subst hA1;subst hA3
    have hr:=Lib.run_append_grow_string (P:=P) w t tx type e i (.int .u8 0) hu' hk i1 i2 ⟨bk,0,none⟩ xs.length ent.cap us (by rw [i3,Nat.mul_one];exact u2) (fun q v h=>by
     have:=holds q v h
     rw [addr_add];simpa using this) ⟨l.toArray⟩ (by rw [text_size];omega) (by rw [text_size];omega) (by rw [text_size];exact hfit ent.cap (by omega))
    refine new (grownCap w (xs.length+l.length) ent.cap e) (grownCap_ge w _ ent.cap e) ?_
    rw [text_size] at hr
    simp only [execOp,resolve,invoke,builtin,Sem.run_bind,Sem.run_pure,Result.andThen_ok,List.map_toArray,List.map_cons,List.map_nil,c2,v1,hr]
    rfl
end
end Go.AL
end
section
namespace Go.AL
open Go
end Go.AL
end
section
namespace Go.AL
open Go
section
variable {P:Program}
theorem made_get (z:Value) (k i:Nat) (h:i < k):(madeCells #[z] k)[i]? = some z:=by
 unfold madeCells
 rw [Array.getElem?_map,Array.getElem?_eq_getElem (by simpa using h)]
 simp [Nat.mod_one]
theorem make_ownA [T:TyTab P] {dst:Option Tmp} {t:TypeId} {l c:Operand} {type:TypeId} {pos:String} {after:Array Edge} {guard:Option (Nat × Bool)} {F:Fr} {H:List AObj} {e:TypeId} {r r':TyRow} {kl kc:IntKind} {n:Int} (m:Nat) {z:Value} {x:AVal} (hxz:∀ c:Ctx,Rel c x z) {nH:Nat} {H':List AObj}
  (hl:ev F l=some (.v (.int kl n))) (hc:ev F c=some (.v (.int kc n))) (hm:n=(m:Int)) (ht:tfind T.tab t=some r') (hd:r'.d = .slice e) (he:tfind T.tab e=some r) (hz:r.z=z) (hs:r.size=1) (hzc:z.cells = #[z]) (h1:z.oneCell'=true) (hb:r.bytes≤1000) (hk:m≤1000000)
  (hn:lenH H=some nH) (hH:nrmH (H++[.arr 1 e 1 (List.replicate m x)])=some H') :
  DSem P .x ⟨dst,.makeSlice t l c,type,pos,after,guard⟩ F H (.arr nH 1) H':=by
 rw [lenH_eq hn,nrmH_eq hH]
 refine ⟨fun j t cs hj=>by rw [List.getElem?_append_left (List.getElem?_eq_some_iff.1 hj).1];exact hj,?_⟩
 intro ext w β ρ hI hext hκ hρ
 have h2:ρ l = .int kl n:=hρ l (by simp [Op.operands]) _ hl
 have h3:ρ c = .int kc n:=hρ c (by simp [Op.operands]) _ hc
 obtain ⟨i,i1,i2,i3,i4⟩:=ty_info he
 rw [hz] at i2
 rw [hs] at i3
 have hu:P.underlying t=some (.slice e):=by rw [ty_und ht,hd]
 have hbm:i.bytes*m≤1000*1000000:=Nat.mul_le_mul (by omega) hk
 have hq0:(i.bytes:Int)*n≤281474976710656:=by
  rw [hm,←Int.natCast_mul];generalize i.bytes*m=q at hbm ⊢;omega
 have hr:=run_make (P:=P) w t e i z hu i1 i2 kl kc n n (by omega) (Int.le_refl _) hq0 (by omega)
 have h4:(execOp ρ ⟨dst,.makeSlice t l c,type,pos,after,guard⟩).run P w = .ok (.value (.slice (some ⟨w.heap.size,0,none⟩) m m)) (World.push w (.cells (madeCells z.cells m) e)):=by
  simp only [execOp,Sem.run_bind,h2,h3,hr,Result.andThen_ok,Sem.run_pure]
  rw [hm,i3,Nat.mul_one]
  rfl
 rw [h4]
 have hsz:(madeCells z.cells m).size=m:=by simp [madeCells]
 have hst:Step w β (World.push w (.cells (madeCells z.cells m) e)) (β++[⟨some w.heap.size,1,1,m,m⟩]):=Step.alloc w β _ _ (.inl rfl)
 refine ⟨_,_,β++[⟨some w.heap.size,1,1,m,m⟩],⟨rfl,rfl⟩,?_,hI.alloc hext _ _ _ (.inl rfl) ?_,hst⟩
 ·exact ⟨rfl,⟨some w.heap.size,1,1,m,m⟩,by rw [←hI.len];simp,Nat.le_refl _,fun _=>⟨Nat.le_refl _,rfl⟩⟩
 ·refine ⟨rfl,by omega,rfl,by simp,by simp,_,push_top,by rw [hsz,Nat.mul_one],?_⟩
  refine RelR.of_get fun q a ha=>?_
  have hq:q < m:=by simpa using (List.getElem?_eq_some_iff.1 ha).1
  rw [List.getElem?_replicate,if_pos hq] at ha
  injection ha with ha
  subst ha
  refine ⟨z,hxz _,by rw [hzc];rfl,fun p hp=>?_⟩
  have hp0:p=0:=by omega
  subst hp0
  simp only [Nat.zero_add,Nat.mul_one,Nat.add_zero]
  rw [hzc,made_get _ _ _ hq]
  rfl
theorem make_own [T:TyTab P] {dst:Option Tmp} {t:TypeId} {l c:Operand} {type:TypeId} {pos:String} {after:Array Edge} {guard:Option (Nat × Bool)} {F:Fr} {H:List AObj} {e:TypeId} {r r':TyRow} {kl kc:IntKind} {n:Int} (m:Nat) {z:Value} {nH:Nat} {H':List AObj}
  (hl:ev F l=some (.v (.int kl n))) (hc:ev F c=some (.v (.int kc n))) (hm:n=(m:Int)) (ht:tfind T.tab t=some r') (hd:r'.d = .slice e) (he:tfind T.tab e=some r) (hz:r.z=z) (hs:r.size=1) (hzc:z.cells = #[z]) (h1:z.oneCell'=true) (hb:r.bytes≤1000) (hk:m≤1000000)
  (hn:lenH H=some nH) (hH:nrmH (H++[.arr 1 e 1 (List.replicate m (.v z))])=some H') :
  DSem P .x ⟨dst,.makeSlice t l c,type,pos,after,guard⟩ F H (.arr nH 1) H' :=
 make_ownA (x:=.v z) m (fun _=>show _=_ from rfl) hl hc hm ht hd he hz hs hzc h1 hb hk hn hH
theorem nil_rel (c:Ctx):Rel c (.sl []) (.slice none 0 0):=⟨none,0,1,rfl,Nat.le_refl _,fun h=>absurd rfl h,trivial⟩
theorem copy_own [T:TyTab P] {dst:Option Tmp} {t tx:TypeId} {x y:Operand} {type:TypeId} {pos:String} {after:Array Edge} {guard:Option (Nat × Bool)} {F:Fr} {H H':List AObj} {j g:Nat} {xs ys:List AVal} {b:AVal} {e:TypeId} {r r':TyRow}
  (hx:ev F x=some (.arr j g)) (hj:H[j]? = some (.arr g e 1 xs)) (hy:ev F y=some b) (hb:xsOf b=some ys) (ht:tfind T.tab t=some r') (hd:r'.d = .slice e) (he:tfind T.tab e=some r) (hs:r.size=1)
  (ho:ElemsOk 1 xs) (hoy:ElemsOk 1 ys) (hl:xs.length=ys.length) (hH:hsetO H j (.arr g e 1 ys)=some H') :
  DSem P .x ⟨dst,.call { callee:=.builtin .copy,args:=#[x,y],argTypes:=#[t,tx] },type,pos,after,guard⟩ F H (.v (.int .i64 (ys.length:Int))) H':=by
 rw [hsetO_eq hH]
 refine ⟨fun i t cs hi=>?_,?_⟩
 ·by_cases hij:i=j
  ·subst hij;rw [hj] at hi;cases hi
  ·rw [List.getElem?_set_ne (by omega)];exact hi
 intro ext w β ρ hI hext hκ hρ
 have hr0:=hρ x (by simp [Op.operands,Call.operands]) _ hx
 obtain ⟨ent,hent,k1,k0,k2,k3,k4,hcase⟩:=arr_open hI hj hr0
 obtain ⟨B,m,vs,v1,v2,v3,v4,v5⟩:=src_cells hI (.sl hb) hoy (hρ y (by simp [Op.operands,Call.operands]) _ hy)
 obtain ⟨i,i1,i2,i3,i4⟩:=ty_info he
 have hu:P.underlying t=some (.slice e):=by rw [ty_und ht,hd]
 have hsz:(P.info? e).map (·.size)=some 1:=by rw [i1];simp [i3,hs]
 rw [Nat.mul_one] at v2
 by_cases h0:ys=[]
 ·subst h0
  have hx0:xs=[]:=List.length_eq_zero_iff.1 hl
  subst hx0
  have hux:∃ A c,ρ x = .slice A 0 c:=by
   rcases hcase with ⟨_,_,_,A,hu⟩|⟨b,us,_,hu,_⟩
   ·exact ⟨A,0,hu⟩
   ·exact ⟨_,_,hu⟩
  obtain ⟨A,c,hux⟩:=hux
  have hr:=run_copy_none (P:=P) w t tx type e A B 0 c 0 m hu hsz rfl
  have h4:(execOp ρ ⟨dst,.call { callee:=.builtin .copy,args:=#[x,y],argTypes:=#[t,tx] },type,pos,after,guard⟩).run P w = .ok (.value (.int .i64 0)) w:=by
   simp only [execOp,resolve,invoke,builtin,Sem.run_bind,Sem.run_pure,Result.andThen_ok,List.map_toArray,List.map_cons,List.map_nil,hux,v1,List.length_nil]
   rw [hr];rfl
  rw [h4]
  have hset:H.set j (.arr g e 1 [])=H:=by
   apply List.ext_getElem?
   intro q
   by_cases hq:q=j
   ·subst hq
    rw [List.getElem?_set_self (List.getElem?_eq_some_iff.1 hj).1,hj]
   ·rw [List.getElem?_set_ne (by omega)]
  rw [hset]
  exact came_same hI rfl
 ·have hpos:0 < ys.length:=List.length_pos_iff.2 h0
  rcases hcase with ⟨_,hx0,_,_⟩|⟨bk,us,hbk,hux,hus,husz,hrow⟩
  ·rw [hx0] at hl;simp at hl;omega
  rcases v5 with h5|⟨b2,o2,rfl,hld⟩
  ·exact absurd h5 h0
  have hcap:ys.length≤us.size:=by rw [husz];omega
  have hr:=run_copy_row (P:=P) w t tx type e bk 0 xs.length ent.cap ⟨b2,o2,none⟩ ys.length m us e vs hu hsz hus (by rw [v2,hl];simp) (fun q v hq=>by rw [addr_add];exact hld q v hq) (by rw [v2];omega) v3
  simp only [List.take_zero,List.nil_append,Nat.zero_add] at hr
  generalize hcs:(vs++us.toList.drop vs.length).toArray=cs' at hr
  have h4:(execOp ρ ⟨dst,.call { callee:=.builtin .copy,args:=#[x,y],argTypes:=#[t,tx] },type,pos,after,guard⟩).run P w = .ok (.value (.int .i64 (ys.length:Int))) (w.setRow bk cs'):=by
   simp only [execOp,resolve,invoke,builtin,Sem.run_bind,Sem.run_pure,Result.andThen_ok,List.map_toArray,List.map_cons,List.map_nil,hux,v1,hr]
   rw [v2];rfl
  rw [h4]
  have hstep:Step w β (w.setRow bk cs') β:=Step.write ⟨j,ent,hent,hbk⟩ (by simp) (fun c hc=>setRow_other w bk c cs' hc) rfl rfl rfl
  refine ⟨_,_,β,⟨rfl,rfl⟩,rfl,hI.write hent hbk (by simp) (fun c hc=>setRow_other w bk c cs' hc) rfl rfl rfl ⟨k1,k0,k2,by rw [k3,hl],by omega,?_⟩,hstep⟩
  rw [hbk]
  refine ⟨cs',setRow_get hus,?_,?_⟩
  ·rw [←hcs]
   simp only [List.size_toArray,List.length_append,List.length_drop,Array.length_toList,v2]
   omega
  ·have h6:RelR { (ctx ext w β) with β:=[] } 1 (fun q=>cs'[q]?) 0 ys:=relR_rd v4 fun q hq=>by
    rw [Nat.mul_one] at hq
    rw [←hcs]
    simp only [List.getElem?_toArray]
    rw [List.getElem?_append_left (by omega)]
   exact h6.le (hstep.le (ext:=ext)).bare _ _ _ _
theorem cell_at {w:World} {b:Nat} {us:Array Value} {t:TypeId} {v:Value} {i:Nat} (h:w.heap[b]? = some (.cells us t (0,0))) (hv:us[i]? = some v):w.cell? ⟨b,i,none⟩=some v:=by
 simp [World.cell?,h,hv]
theorem copy_bs [T:TyTab P] {dst:Option Tmp} {t tx:TypeId} {x y:Operand} {type:TypeId} {pos:String} {after:Array Edge} {guard:Option (Nat × Bool)} {F:Fr} {H H':List AObj} {j1 o1 c1 j2 o2 c2 n:Nat} {t1 t2:TypeId} {cs1 cs2:List AVal} {e:TypeId} {r r':TyRow}
  (hx:ev F x=some (.bs j1 o1 n c1)) (hj1:H[j1]? = some (.box t1 cs1)) (hy:ev F y=some (.bs j2 o2 n c2)) (hj2:H[j2]? = some (.box t2 cs2)) (ht:tfind T.tab t=some r') (hd:r'.d = .slice e) (he:tfind T.tab e=some r) (hs:r.size=1)
  (h1:o1+n≤cs1.length) (h2:o2+n≤cs2.length) (hH:hsetO H j1 (.box t1 (spliceA cs1 o1 ((cs2.drop o2).take n)))=some H') :
  DSem P .m ⟨dst,.call { callee:=.builtin .copy,args:=#[x,y],argTypes:=#[t,tx] },type,pos,after,guard⟩ F H (.v (.int .i64 (n:Int))) H':=by
 rw [hsetO_eq hH]
 intro ext w β ρ hI hext hκ hρ
 obtain ⟨e1,b1,he1,_,hb1,hu1⟩:=hρ x (by simp [Op.operands,Call.operands]) _ hx
 obtain ⟨e2,b2,he2,_,hb2,hu2⟩:=hρ y (by simp [Op.operands,Call.operands]) _ hy
 obtain ⟨g1,hone1,b1',us1,hb1',hc1,hr1⟩:=hI.obj j1 _ _ hj1 he1
 obtain ⟨g2,hone2,b2',us2,hb2',hc2,hr2⟩:=hI.obj j2 _ _ hj2 he2
 obtain rfl:=Option.some.inj (hb1.symm.trans hb1')
 obtain rfl:=Option.some.inj (hb2.symm.trans hb2')
 have l1:=hr1.length
 have l2:=hr2.length
 simp only [Array.length_toList] at l1 l2
 obtain ⟨i,i1,i2,i3,i4⟩:=ty_info he
 have hu:P.underlying t=some (.slice e):=by rw [ty_und ht,hd]
 have hsz:(P.info? e).map (·.size)=some 1:=by rw [i1];simp [i3,hs]
 have hvr:RelL (ctx ext w β) ((cs2.drop o2).take n) ((us2.toList.drop o2).take n):=(hr2.drop o2).take n
 have hfl:(AVal.agg ((cs2.drop o2).take n)).flat=true:=all_take n (all_drop o2 hone2)
 have hag:Rel (ctx ext w β) (.agg ((cs2.drop o2).take n)) (.agg ((us2.toList.drop o2).take n).toArray):=⟨_,rfl,by simpa using hvr⟩
 obtain ⟨hcl,hco⟩:=hag.cells hfl
 have hvl:((us2.toList.drop o2).take n).length=n:=by simp;omega
 have hr:=run_copy_row (P:=P) w t tx type e b1 o1 n c1 ⟨b2,o2,none⟩ n c2 us1 t1 ((us2.toList.drop o2).take n) hu hsz hc1 (by rw [hvl];simp) (fun q v hq=>by
  rw [addr_add]
  refine cell_at hc2 ?_
  rw [List.getElem?_take] at hq
  split at hq
  ·rw [List.getElem?_drop] at hq;simpa using hq
  ·cases hq) (by rw [hvl];omega) (fun v hv=>hco v (by simpa [Value.cells] using hv))
 generalize hcs:(us1.toList.take o1++(us2.toList.drop o2).take n++us1.toList.drop (o1+((us2.toList.drop o2).take n).length)).toArray=cs' at hr
 have h4:(execOp ρ ⟨dst,.call { callee:=.builtin .copy,args:=#[x,y],argTypes:=#[t,tx] },type,pos,after,guard⟩).run P w = .ok (.value (.int .i64 (n:Int))) (w.setRow b1 cs'):=by
  simp only [execOp,resolve,invoke,builtin,Sem.run_bind,Sem.run_pure,Result.andThen_ok,List.map_toArray,List.map_cons,List.map_nil,hu1,hu2,hr]
  rw [hvl];rfl
 rw [h4]
 have hstep:Step w β (w.setRow b1 cs') β:=Step.write ⟨j1,e1,he1,hb1⟩ (by simp) (fun c hc=>setRow_other w b1 c cs' hc) rfl rfl rfl
 have hcs2:RelL (ctx ext w β) (spliceA cs1 o1 ((cs2.drop o2).take n)) cs'.toList:=by
  rw [←hcs]
  unfold spliceA
  rw [show ((cs2.drop o2).take n).length=n by simp;omega,hvl]
  exact ((hr1.take o1).append hvr).append (hr1.drop _)
 have hobj:RelO (ctx ext (w.setRow b1 cs') β) e1 (.box t1 (spliceA cs1 o1 ((cs2.drop o2).take n))) :=
  ⟨g1,all_append (all_append (all_take _ hone1) (all_take n (all_drop o2 hone2))) (all_drop _ hone1),b1,cs',hb1,setRow_get hc1,hcs2.le hstep.le⟩
 exact ⟨_,_,β,⟨rfl,rfl⟩,rfl,hI.write he1 hb1 (by simp) (fun c hc=>setRow_other w b1 c cs' hc) rfl rfl rfl hobj,hstep⟩
end
end Go.AL
end
section
namespace Go.AL
open Go
section
variable {P:Program}
theorem opIn_mono {Fn:Fence} {n:Nat} {o:Oper} {a:Act} {w:World} {K:Act→World→Prop} {Q Q':Exit→Act→World→Prop} (h:o.wpIn Fn n P a w K Q) (hq:∀ e a w,Q e a w→Q' e a w):o.wpIn Fn n P a w K Q':=by
 refine ⟨h.1,?_⟩
 have h2:=h.2
 generalize (o.semAt Fn.round a.eval).run P w=r at h2
 cases r with
 | ok x w' =>
  cases x<;>simp only [Oper.uponIn] at h2 ⊢<;>try exact h2
  ·refine ⟨h2.1,CallsIn.mono h2.2 fun e w'' he=>?_⟩
   cases e with
   | returned v=>exact he
   | panicked ch=>exact hq _ _ _ he
   | outgrown=>exact let ⟨a,w,h⟩:=he;⟨a,w,hq _ _ _ h⟩
  ·refine ⟨h2.1,RoundIn.mono h2.2 fun e w'' he=>?_⟩
   cases e with
   | returned v=>exact he
   | panicked ch=>exact hq _ _ _ he
   | outgrown=>exact let ⟨a,w,h⟩:=he;⟨a,w,hq _ _ _ h⟩
 | halt x w' =>
  cases x<;>simp only [Oper.uponIn] at h2 ⊢<;>first|exact hq _ _ _ h2|exact h2
def ModeIs (c:Ctx):Option AVal→FrameMode→Prop
 | none,u=>u = .returning
 | some v,u=>∃ x,u = .panicking [{ v:=x,recovered:=false }]∧Rel c v x
def rvOf:Option AVal→AVal
 | none=>.v .nilIface
 | some v=>v
structure ADCalls (P:Program) (g:FuncId) (args:List AVal) (H:List AObj) (m:Option AVal) (H':List AObj):Prop where
 enters:Enters P g
 calls:∀ (ext:Nat→Prop) (w:World) (β:List Ent) (us:List Value) (u:FrameMode),Inv ext w H β→(∀ b,ext b→b < w.heap.size)→RelL (ctx ext w β) args us→ModeIs (ctx ext w β) m u →
  CallsDIn Fence.wide 0 P g us.toArray u w fun e u' w'=>(∃ v,e = .returned v)∧settle u' = .returning∧∃ β',Inv ext w' H' β'∧Step w β w' β'
theorem start_st {G:Gh} {ext:Nat→Prop} {w:World} {β:List Ent} {H:List AObj} {args:List AVal} {us:List Value} {N k:Nat} (hG:G=⟨w,β,ext,N,[],none,true⟩) (hk:k=N) (hl:args.length≤N) (hI:Inv ext w H β) (hx:∀ b,ext b→b < w.heap.size) (hr:RelL (ctx ext w β) args us) :
  StB G β (params 0 args) H { tmps:=us.toArray++Array.replicate (k-us.toArray.size) undef,defers:=[] } w:=by
 subst hG;subst hk
 have hlen:=hr.length
 refine ⟨hI,Step.refl w β,hx,?_,⟨[],List.nodup_nil,rfl,fun r hr=>by simp at hr,fun _=>rfl⟩,fun t v ht=>?_⟩
 ·show (us.toArray++Array.replicate (k-us.toArray.size) undef).size=k
  simp;omega
 ·obtain ⟨_,h1⟩:=params_get ht
  rw [Nat.sub_zero] at h1
  obtain ⟨u,h2,h3⟩:=hr.get h1
  have hlt:t < us.length:=(List.getElem?_eq_some_iff.1 h2).1
  refine ⟨u,?_,h3⟩
  show (us.toArray++Array.replicate (k-us.toArray.size) undef)[t]? = some u
  rw [Array.getElem?_append_left (by simpa using hlt)]
  simpa using h2
theorem adcalls_intro [T:TyTab P] {g:FuncId} {fn:Func} {X:Code} {args:List AVal} {H H':List AObj} {m:Option AVal} {N i0 t t2:Nat} {ty ty2:TypeId} {p1 p2:String} {af1 af2:Array Edge}
  (hf:P.funcs[g]? = some fn)
  (hb:fn.body=some ((Code.region i0 #[⟨some t,.call { callee:=.builtin .recover,args:=#[],argTypes:=#[] },ty,p1,af1,none⟩,⟨some t2,.assign (.tmp t),ty2,p2,af2,none⟩] false).seq X))
  (hname:(fn.name == "runtime.NumGoroutine")=false) (hN:fn.ntmps=N) (hl:Nat.ble args.length N=true) (hrs:fn.results.toList=[]) (ht:Nat.blt t N=true) (ht2:Nat.blt t2 N=true)
  (h:∀ w0 β0 ext,β0.length=H.length→J P ⟨w0,β0,ext,N,[],none,true⟩ (BodyQ T.tab [] H.length (one (.tup []) H')) (.c X .nil) ((t2,rvOf m)::(t,rvOf m)::params 0 args) H):ADCalls P g args H m H':=by
 refine ⟨⟨fn,hf,hname,by rw [hb];rfl⟩,fun ext w β us u hI hx hr hm=>?_⟩
 have hl':=Nat.le_of_ble_eq_true hl
 have ht':=Nat.le_of_ble_eq_true ht
 have ht2':=Nat.le_of_ble_eq_true ht2
 have hst:=start_st (G:=⟨w,β,ext,N,[],none,true⟩) rfl hN hl' hI hx hr
 generalize hG:(⟨w,β,ext,N,[],none,true⟩:Gh)=G at hst
 refine callsDIn_of_wpSIn hf hb trivial fun c₀ cs hu=>wpSIn_seq (wpSIn_region ?_)
 -- what recover gives
 have hrec:∃ x u',Rel (ctx ext w β) (rvOf m) x∧settle u' = .returning ∧
   ((recoverD (c₀::cs)=none∧x = .nilIface∧c₀ = { c₀ with mode:=u' })∨recoverD (c₀::cs)=some (x,{ c₀ with mode:=u' }::cs)):=by
  cases m with
  | none =>
   have hm:u = .returning:=hm
   refine ⟨.nilIface,.returning,rfl,rfl,.inl ⟨?_,rfl,?_⟩⟩
   ·simp [recoverD,hu,hm]
   ·rw [←hm,←hu]
  | some v =>
   obtain ⟨x,hm,hv⟩:=hm
   refine ⟨x,.panicking [{ v:=x,recovered:=true }],hv,rfl,.inr ?_⟩
   simp [recoverD,hu,hm]
 obtain ⟨x,u',hx1,hset,hrec⟩:=hrec
 have key:∀ cs1,cs1=({ c₀ with mode:=u' }:Frame)::cs→∀ a2 w2,w2=w→StB G β ((t2,rvOf m)::(t,rvOf m)::params 0 args) H a2 w2 →
   X.wpSIn Fence.wide 0 P (bodyPostS P fn c₀ cs fun e u' w'=>(∃ v,e = .returned v)∧settle u' = .returning∧∃ β',Inv ext w' H' β'∧Step w β w' β') a2 cs1 w2:=by
  rintro _ rfl a2 w2 rfl hs
  have hJ:=h w2 β ext hI.len
  rw [hG] at hJ
  have hrd:fz G.rd=Fence.wide:=by rw [←hG];rfl
  have hw:=hJ a2 w2 ⟨β,hs⟩
  rw [hrd] at hw
  refine wpSIn_of_wpIn rfl (wpIn_mono hw fun e a' w' he=>?_)
  have fin:∀ a' w',(∃ F' H1,(∃ r r' Ho ks wk,resA T.tab [] F' H1=some r∧keepOk H.length ks=true∧finish H.length ks wk H1 r=some (r',Ho)∧one (.tup []) H' (.ret r') Ho)∧St G F' H1 a' w') →
    a'.defers=[]∧∃ u1,({ c₀ with mode:=u' }:Frame)::cs = { c₀ with mode:=u1 }::cs∧∃ v,(results fn a'.tmps).run P w' = .ok v w'∧((∃ x,Ending.returned v = .returned x)∧settle u1 = .returning∧∃ β',Inv ext w' H' β'∧Step w2 β w' β'):=by
   rintro a' w' ⟨F',H1,⟨r,r',Ho,ks,wk,h1,h2,h3,h4⟩,β',hs'⟩
   have hr0:r' = .tup []∧Ho=H':=by
    obtain ⟨q1,q2⟩:=h4
    injection q1 with q1
    exact ⟨q1,q2⟩
   obtain ⟨ms,m1,m2,m3,m4⟩:=hs'.defers
   have hms:ms=[]:=m4 (by rw [←hG])
   subst hms
   obtain ⟨v,h5,h6⟩:=res_run (fn:=fn) hs' (by rw [hrs];exact h1)
   have hst2:Step w2 β w' β':=by have:=hs'.step;rw [←hG] at this;exact this
   have hI2:Inv ext w' H1 β':=by have:=hs'.inv;rw [←hG] at this;exact this
   have h6:Rel (ctx ext w' β') r v:=by rw [←hG] at h6;exact h6
   obtain ⟨β'',g1,g2,g3,_⟩:=finish_came1 hI2 hst2 (by rw [hI.len];exact Nat.le_refl _) (by have:=hst2.lens;rw [←hI.len];exact this) h6 h2 h3
   refine ⟨by rw [m2,←hG];rfl,u',rfl,v,h5,⟨_,rfl⟩,hset,β'',?_,g3⟩
   rw [←hr0.2];exact g2
  cases e with
  | normal=>exact fin a' w' he
  | ret=>exact fin a' w' he
  | exit id=>obtain ⟨F',H',h1,_⟩:=he;exact h1.elim
  | goto l=>exact he.elim
  | outgrown=>exact he.elim
  | panic ch =>
   obtain ⟨v,F',H1,β',u,⟨r',Ho,ks,wk,h2,h3,h4⟩,_⟩:=he
   cases h4.1
 have hget:∀ (a:Act) (v:Value) (n:Nat),n < a.tmps.size→(a.put (some n) v).eval (.tmp n)=v:=fun a v n hn=>by
  simp [Act.eval,Act.put,Array.getElem?_setIfInBounds,hn]
 have hsz:t < ({ tmps:=us.toArray++Array.replicate (fn.ntmps-us.toArray.size) undef,defers:=[] }:Act).tmps.size:=by rw [hst.size,←hG];exact ht'
 have hfin:∀ (a:Act),StB G β (params 0 args) H a w→({ tmps:=us.toArray++Array.replicate (fn.ntmps-us.toArray.size) undef,defers:=[] }:Act)=a →
   StB G β ((t2,rvOf m)::(t,rvOf m)::params 0 args) H ((a.put (some t) x).put (some t2) x) w:=fun a hs _=>by
  have hxx:Rel (ctx G.ext w β) (rvOf m) x:=by rw [←hG];exact hx1
  exact (hs.put (d:=some t) hxx (fun s e=>by injection e with e;subst e;rw [←hG];exact ht')).put (d:=some t2) hxx (fun s e=>by injection e with e;subst e;rw [←hG];exact ht2')
 have hfin:=hfin _ hst rfl
 generalize ({ tmps:=us.toArray++Array.replicate (fn.ntmps-us.toArray.size) undef,defers:=[] }:Act)=a0 at *
 show wpOpsSIn Fence.wide 0 P _ _ [0,1] a0 (c₀::cs) w
 rcases hrec with ⟨hrec,rfl,hc⟩|hrec
 ·simp only [wpOpsSIn,List.getElem?_toArray,List.getElem?_cons_zero,List.getElem?_cons_succ,Region.wanted]
  refine ⟨fun _ _=>trivial,?_⟩
  simp only [if_true]
  have e1:(execOp a0.eval ⟨some t,.call { callee:=.builtin .recover,args:=#[],argTypes:=#[] },ty,p1,af1,none⟩).run P w = .ok .recover w:=rfl
  rw [e1]
  simp only [hrec]
  refine ⟨fun _ _=>trivial,?_⟩
  have e2:(execOp (a0.put (some t) .nilIface).eval ⟨some t2,.assign (.tmp t),ty2,p2,af2,none⟩).run P w = .ok (.value .nilIface) w:=by
   show Result.ok (Next.value ((a0.put (some t) .nilIface).eval (.tmp t))) w=_
   rw [hget _ _ _ hsz]
  rw [e2]
  exact key _ (by rw [←hc]) _ w rfl hfin
 ·simp only [wpOpsSIn,List.getElem?_toArray,List.getElem?_cons_zero,List.getElem?_cons_succ,Region.wanted]
  refine ⟨fun _ _=>trivial,?_⟩
  simp only [if_true]
  have e1:(execOp a0.eval ⟨some t,.call { callee:=.builtin .recover,args:=#[],argTypes:=#[] },ty,p1,af1,none⟩).run P w = .ok .recover w:=rfl
  rw [e1]
  simp only [hrec]
  refine ⟨fun _ _=>trivial,?_⟩
  have e2:(execOp (a0.put (some t) x).eval ⟨some t2,.assign (.tmp t),ty2,p2,af2,none⟩).run P w = .ok (.value x) w:=by
   show Result.ok (Next.value ((a0.put (some t) x).eval (.tmp t))) w=_
   rw [hget _ _ _ hsz]
  rw [e2]
  exact key _ rfl _ w rfl hfin
theorem panic_sem [T:TyTab P] {dst:Option Tmp} {x:Operand} {type:TypeId} {pos:String} {after:Array Edge} {guard:Option (Nat × Bool)} {F:Fr} {H:List AObj} {t:TypeId} {v:AVal} (hx:ev F x=some (.ifc t v)) :
  OpSem P ⟨dst,.panic x,type,pos,after,guard⟩ F H (fun r H'=>r = .pan (.ifc t v)∧H'=H):=by
 intro ext w β ρ hI hext hκ hρ
 have hr:=hρ x (by simp [Op.operands]) _ hx
 obtain ⟨y,hy,hv⟩:=hr
 have h4:(execOp ρ ⟨dst,.panic x,type,pos,after,guard⟩).run P w = .halt (.panic (.iface t y)) w:=by
  simp only [execOp,hy,Instr.panic]
  rfl
 rw [h4]
 exact ⟨_,H,β,⟨rfl,rfl⟩,⟨y,rfl,hv⟩,hI,Step.refl w β⟩
theorem post_pan {G:Gh} {Q:APost} {F:Fr} {H:List AObj} {v:AVal}:∀ {k:Kt},Q (.panic v) F H→post P G Q k (.panic v) F H
 | .nil,h=>h
 | .seq y k,h=>post_pan (k:=k) h
 | .blk id k,h=>post_pan (k:=k) h
 | .lp R k,h=>post_pan (k:=k) h
theorem jpanS {G:Gh} {Q:APost} {F:Fr} {H H1:List AObj} {s s':Pt} {ops:Array Oper} {o:Oper} {v:AVal} (h:nextO s=some (ops,o,none,s')) (hg:guardA ops F o=some true)
  (hd:dstOk G.n o.dst=true) (ho:OpSem P o F H (fun r H'=>r = .pan v∧H'=H1)) (next:Q (.panic v) F H1):J P G Q s F H:=by
 cases s with
 | c=>cases h
 | e=>cases h
 | l os l k =>
  simp only [nextO] at h
  split at h
  ·cases h
  ·injection h with h;injection h with h2 h3;injection h3 with h3 h4;injection h4 with h4 h5;subst h2;subst h3;subst h5
   exact ⟨dstOk_ok hd,.inl ⟨hg,_,ho,fun r H' ⟨h1,h2⟩=>by subst h1;subst h2;exact post_pan next⟩⟩
 | d os l k =>
  simp only [nextO] at h
  split at h
  ·cases h
  ·injection h with h;injection h with h2 h3;injection h3 with h3 h4;injection h4 with h4 h5;cases h4
theorem jpan [T:TyTab P] {G:Gh} {Q:APost} {F:Fr} {H:List AObj} {s s':Pt} {ops:Array Oper} {dst:Option Tmp} {x:Operand} {type:TypeId} {pos:String} {after:Array Edge} {guard:Option (Nat × Bool)} {t:TypeId} {v:AVal} (h:nextO s=some (ops,⟨dst,.panic x,type,pos,after,guard⟩,none,s'))
  (hx:ev F x=some (.ifc t v)) (hg:guardA ops F ⟨dst,.panic x,type,pos,after,guard⟩=some true) (hd:dstOk G.n dst=true) (next:Q (.panic (.ifc t v)) F H):J P G Q s F H :=
 jpanS h hg hd (panic_sem hx) next
def onep (v:AVal) (H':List AObj):Eff:=fun r H=>r = .pan v∧H=H'
theorem jbp {G:Gh} {Q:APost} {F:Fr} {H H':List AObj} (σ:List Nat) {f:FuncId} {args0 args:List AVal} {v v':AVal} {H0 H1:List AObj} (hc:ACalls P f args0 H0 (onep v H1)) {s s':Pt} {ops:Array Oper} {dst:Option Tmp} {o:Op} {type:TypeId} {pos:String} {after:Array Edge} {guard:Option (Nat × Bool)}
  (h:nextO s=some (ops,⟨dst,o,type,pos,after,guard⟩,none,s')) (ho:callO F o=some (f,args)) (hg:guardA ops F ⟨dst,o,type,pos,after,guard⟩=some true) (hσ:sigA σ H H0 args0 args)
  (hv:nrm (rnV (tau σ H.length) v)=some v') (hH:nrmH (putBack (tau σ H.length) σ H H1)=some H') (hd:dstOk G.n dst=true) (next:Q (.panic v') F H'):J P G Q s F H:=by
 refine jpanS h hg hd ?_ next
 obtain ⟨h1,h2,h3,h4,h5,h6⟩:=hσ
 have hf:=hc.from σ h2 h3 h4 h5 (fun i j hij=>by
  have:=congrArg (fun l=>l[i]?) h6
  simp only [List.getElem?_map,hij,Option.map_some] at this
  cases hi:H0[i]? with
  | none=>rw [hi] at this;cases this
  | some o=>rw [hi] at this;simpa using this)
 rw [h1] at hf
 refine callO_sem ho (hf.mono ?_)
 rintro r G ⟨r0,Ho,⟨rfl,rfl⟩,_,rfl,rfl⟩
 exact ⟨by rw [nrm_eq _ hv],(nrmH_eq hH).symm⟩
theorem qpan {tab:List TyRow} {rs:List ResultVar} {n:Nat} {v v' w:AVal} {F:Fr} {H H' Hv:List AObj} (ks:List Nat) (wk:Bool) (h2:keepOk n ks=true) (h3:finish n ks wk H v=some (v',H')) (h4:v'=w) (h5:H'=Hv):BodyQ tab rs n (onep w Hv) (.panic v) F H :=
 ⟨v',H',ks,wk,h2,h3,by rw [h4];exact ⟨rfl,h5⟩⟩
section
variable [T:TyTab P] {F:Fr} {H:List AObj} {dst:Option Tmp} {type:TypeId} {pos:String} {after:Array Edge} {guard:Option (Nat × Bool)} {t yt:TypeId} {x:Operand} {r:TyRow} {ms:Array (String × TypeId)}
theorem ne_nilI (hx:ev F x=some (.v .nilIface)) (ht:tfind T.tab t=some r) (hd:r.d = .interface ms):DSem P .p ⟨dst,.binOp .neq t x (.const .nilIface) yt,type,pos,after,guard⟩ F H (.v (.bool false)) H:=by
 refine ⟨rfl,fun H'=>Says.sem (says_bin (b:=.v .nilIface) hx rfl (fun c u u' w r1 r2=>?_) ⟨_,rfl⟩) H'⟩
 cases (r1:u=_);cases (r2:u'=_)
 have hu:=ty_und ht
 rw [hd] at hu
 have h:∀ d:Nat,(Op.equalIn (d+1) t .nilIface .nilIface).run P w = .ok true w:=fun d=>by simp [Op.equalIn,run_underlying hu]
 have hg:(eqGuard .neq t x (.const .nilIface) .nilIface .nilIface).run P w = .ok () w:=by simp [eqGuard]
 simp only [Sem.run_bind,hg,Result.andThen_ok,binOp]
 simp [Op.equal,Op.maxDepth,h 9999]
theorem ne_ifc {tx:TypeId} {v:AVal} (hx:ev F x=some (.ifc tx v)) (ht:tfind T.tab t=some r) (hd:r.d = .interface ms):DSem P .p ⟨dst,.binOp .neq t x (.const .nilIface) yt,type,pos,after,guard⟩ F H (.v (.bool true)) H:=by
 refine ⟨rfl,fun H'=>Says.sem (says_bin (b:=.v .nilIface) hx rfl (fun c u u' w r1 r2=>?_) ⟨_,rfl⟩) H'⟩
 obtain ⟨y,rfl,_⟩:=r1
 cases (r2:u'=_)
 have hu:=ty_und ht
 rw [hd] at hu
 have h:∀ d:Nat,(Op.equalIn (d+1) t (.iface tx y) .nilIface).run P w = .ok false w:=fun d=>by simp [Op.equalIn,run_underlying hu]
 have hg:(eqGuard .neq t x (.const .nilIface) (.iface tx y) .nilIface).run P w = .ok () w:=by simp [eqGuard]
 simp only [Sem.run_bind,hg,Result.andThen_ok,binOp]
 simp [Op.equal,Op.maxDepth,h 9999]
theorem ta_ok {tx:TypeId} {v:AVal} (hx:ev F x=some (.ifc t v)) (ht:tfind T.tab t=some r) (hd:∀ ms,r.d ≠ .interface ms):DSem P .p ⟨dst,.typeAssert x tx t true,type,pos,after,guard⟩ F H (.tup [v,.v (.bool true)]) H:=by
 refine ⟨rfl,fun H'=>?_⟩
 intro ext w β ρ hI hext hκ hρ
 obtain ⟨y,hy,hv⟩:=hρ x (by simp [Op.operands]) _ hx
 have h4:(execOp ρ ⟨dst,.typeAssert x tx t true,type,pos,after,guard⟩).run P w = .ok (.value (.tuple #[y,.bool true])) w:=by
  simp only [execOp,hy,Instr.typeAssert,Sem.run_bind,run_und ht,Result.andThen_ok]
  split<;>first|rfl|(exfalso;simp_all)|simp_all
 rw [h4]
 exact came_same hI ⟨_,rfl,y,_,rfl,hv,_,[],rfl,rfl,rfl⟩
end
def Only (K:Fr→List AObj→Prop):APost
 | .normal,F,H=>K F H
 | _,_,_=>False
def EndD (P:Program) (n:Nat) (Q:Eff) (g:FuncId) (ca:List AVal):APost
 | .normal,_,H | .ret,_,H=>∃ Hc Ho ks wk,ADCalls P g ca H none Hc∧keepOk n ks=true∧finish n ks wk Hc (.tup [])=some (.tup [],Ho)∧Q (.ret (.tup [])) Ho
 | .panic v,_,H=>∃ Hc Ho ks wk,ADCalls P g ca H (some v) Hc∧keepOk n ks=true∧finish n ks wk Hc (.tup [])=some (.tup [],Ho)∧Q (.ret (.tup [])) Ho
 | _,_,_=>False
theorem lift_only {G:Gh} {K:Fr→List AObj→Prop} {C:Exit→Act→World→Prop} {y:Code} {Q:Exit→Act→World→Prop} (h:∀ a w F H,K F H→St G F H a w→C .normal a w):∀ e a w,lift G (Only K) e a w→C e a w
 | .normal,a,w,⟨F,H,hk,hs⟩=>h a w F H hk hs
 | .exit _,_,_,⟨_,_,hk,_⟩=>hk.elim
 | .ret,_,_,⟨_,_,hk,_⟩=>hk.elim
 | .panic _,_,_,⟨_,_,_,_,_,hk,_⟩=>hk.elim
 | .goto _,_,_,hk=>hk.elim
 | .outgrown,_,_,hk=>hk.elim
theorem acalls_try [T:TyTab P] {f:FuncId} {fn:Func} {r0 r1 B:Code} {args:List AVal} {H:List AObj} {Q:Eff} {N i t:Nat} {mf:Oper} {ty:TypeId} {p:String} {af:Array Edge}
  (hf:P.funcs[f]? = some fn)
  (hb:fn.body=some (r0.seq (r1.seq ((Code.region i #[mf,⟨none,.defer { callee:=.value (.tmp t),args:=#[],argTypes:=#[] },ty,p,af,none⟩] false).seq B))))
  (hname:(fn.name == "runtime.NumGoroutine")=false) (hN:fn.ntmps=N) (hl:Nat.ble args.length N=true) (hrs:fn.results.toList=[])
  (h:∀ w0 β0 ext,β0.length=H.length→J P ⟨w0,β0,ext,N,[],none,true⟩ (Only fun F1 H1=>J P ⟨w0,β0,ext,N,[],none,true⟩ (Only fun F2 H2 =>
    J P ⟨w0,β0,ext,N,[],none,true⟩ (Only fun F3 H3=>∃ g first cap,ev F3 (.tmp t)=some (.fn (.func g) first cap)∧Enters P g ∧
     ∀ w1 β1 d,J P ⟨w1,β1,ext,N,[d],none,true⟩ (EndD P H.length Q g (first++cap)) (.c B .nil) F3 H3)
     (.l #[mf,⟨none,.defer { callee:=.value (.tmp t),args:=#[],argTypes:=#[] },ty,p,af,none⟩] [mf] .nil) F2 H2) (.c r1 .nil) F1 H1) (.c r0 .nil) (params 0 args) H):ACalls P f args H Q:=by
 refine ⟨⟨fn,hf,hname,by rw [hb];rfl⟩,fun ext w β us hI hx hr=>?_⟩
 have hst:=start_st (G:=⟨w,β,ext,N,[],none,true⟩) rfl hN (Nat.le_of_ble_eq_true hl) hI hx hr
 refine (callsIn_wide (n:=0)).1 (callsIn_of_wp_marks hf hb trivial ?_)
 refine wpIn_seq (wpIn_mono (h w β ext hI.len _ w ⟨β,hst⟩) (lift_only (y:=.skip) (Q:=fun _ _ _=>False) fun a1 w1 F1 H1 h1 hs1=>?_))
 refine wpIn_seq (wpIn_mono (h1 a1 w1 hs1) (lift_only (y:=.skip) (Q:=fun _ _ _=>False) fun a2 w2 F2 H2 h2 hs2=>?_))
 refine wpIn_seq (wpIn_region_list ?_)
 obtain ⟨hd,hx2⟩:=h2
 obtain ⟨β2,hs2'⟩:=id hs2
 show wpListIn Fence.wide 0 P _ _ [_,_] a2 w2
 have tail:∀ a3 w3 F3 H3,(∃ g first cap,ev F3 (.tmp t)=some (.fn (.func g) first cap)∧Enters P g∧∀ w1 β1 d,J P ⟨w1,β1,ext,N,[d],none,true⟩ (EndD P H.length Q g (first++cap)) (.c B .nil) F3 H3) →
   St ⟨w,β,ext,N,[],none,true⟩ F3 H3 a3 w3 →
   wpListIn Fence.wide 0 P #[mf,⟨none,.defer { callee:=.value (.tmp t),args:=#[],argTypes:=#[] },ty,p,af,none⟩] (Exit.then (B.wpIn Fence.wide 0 P (bodyPostM Fence.wide 0 P fn (Ended ext w β Q))) (bodyPostM Fence.wide 0 P fn (Ended ext w β Q)))
    [⟨none,.defer { callee:=.value (.tmp t),args:=#[],argTypes:=#[] },ty,p,af,none⟩] a3 w3:=by
  rintro a3 w3 F3 H3 ⟨g,first,cap,hev,hen,hB⟩ ⟨β3,hs3⟩
  obtain ⟨ms,m1,m2,m3,m4⟩:=hs3.defers
  have hms:ms=[]:=m4 rfl
  subst hms
  have hd3:a3.defers=[]:=m2
  obtain ⟨c1,c2,hu,r1',r2'⟩:=hs3.ev hev
  unfold wpListIn
  rw [if_pos (by rfl)]
  refine ⟨fun _ _=>trivial,?_⟩
  have hex:((⟨none,.defer { callee:=.value (.tmp t),args:=#[],argTypes:=#[] },ty,p,af,none⟩:Oper).semAt Fence.wide.round a3.eval).run P w3 = .ok (.defer { target:=.fn (.func g) c2,args:=c1 }) w3:=by
   have hsem:∀ o:Oper,Oper.semAt Fence.wide.round a3.eval o=execOp a3.eval o:=fun o=>rfl
   rw [hsem]
   simp only [execOp,resolve,hu,Deferred.ofValue,Sem.run_bind,Sem.run_pure,Result.andThen_ok]
   simp
  rw [hex,Oper.uponIn_defer]
  unfold wpListIn
  rw [hd3]
  show B.wpIn Fence.wide 0 P (bodyPostM Fence.wide 0 P fn (Ended ext w β Q)) { a3 with defers:=[{ target:=.fn (.func g) c2,args:=c1 }] } w3
  have hs4:St ⟨w3,β3,ext,N,[{ target:=.fn (.func g) c2,args:=c1 }],none,true⟩ F3 H3 { a3 with defers:=[{ target:=.fn (.func g) c2,args:=c1 }] } w3 :=
   ⟨β3,hs3.inv,Step.refl w3 β3,hs3.extOk,hs3.size,⟨[],List.nodup_nil,rfl,fun r hr=>by simp at hr,fun _=>rfl⟩,fun s v hv=>hs3.get s v hv⟩
  refine wpIn_mono (hB w3 β3 _ _ w3 hs4) fun e a4 w4 he=>?_
  -- the closure
  have fin:∀ (m:Option AVal) (u:FrameMode) (F4:Fr) (H4 Hc Ho:List AObj) (ks:List Nat) (wk:Bool) (β4:List Ent),u ≠ .run→ModeIs (ctx ext w4 β4) m u→StB ⟨w3,β3,ext,N,[{ target:=.fn (.func g) c2,args:=c1 }],none,true⟩ β4 F4 H4 a4 w4 →
    ADCalls P g (first++cap) H4 m Hc→keepOk H.length ks=true→finish H.length ks wk Hc (.tup [])=some (.tup [],Ho)→Q (.ret (.tup [])) Ho→LeavesInM Fence.wide 0 P fn a4.tmps (Ended ext w β Q) a4.defers u w4:=by
   intro m u F4 H4 Hc Ho ks wk β4 hu4 hm hs4 hA hk hfi hQ
   obtain ⟨ms,q1,q2,q3,q4⟩:=hs4.defers
   have hms:ms=[]:=q4 rfl
   subst hms
   have hd4:a4.defers=[{ target:=.fn (.func g) c2,args:=c1 }]:=q2
   rw [hd4]
   have hstep4:Step w3 β3 w4 β4:=hs4.step
   have hrel:RelL (ctx ext w4 β4) (first++cap) (c1.toList++c2.toList):=(r1'.append r2').le hstep4.le
   have hcall:=hA.calls ext w4 β4 (c1.toList++c2.toList) u hs4.inv hs4.extOk hrel hm
   have harr:(c1.toList++c2.toList).toArray=c1++c2:=by apply Array.ext';simp
   rw [harr] at hcall
   refine ⟨hu4,.inr ⟨fun h=>by simp [Fence.wide] at h,_,_,g,c1++c2,rfl,?_,fun _ _=>trivial,CallsDIn.mono hcall fun e u' w5 ⟨⟨v,hv⟩,hset,β5,hI5,hs5⟩=>?_⟩⟩
   ·simp only [invoke]
    exact callFunc_run hen _ w4
   ·subst hv
    show LeavesIn Fence.wide 0 P fn a4.tmps (Ended ext w β Q) [] (settle u') w5
    rw [hset]
    refine ⟨.tuple #[],by unfold results;rw [Array.mapM_eq_mapM_toList,hrs];simp only [List.mapM_nil,Sem.run_bind,Sem.run_map,Sem.run_pure];rfl,?_⟩
    exact Came.mono (fun q G' ⟨e1,e2⟩=>by subst e1;subst e2;exact hQ) (finish_came (k:=.ret) hI5 ((hs3.step.trans hstep4).trans hs5) hI.len (show Rel _ (.tup []) (.tuple #[]) from ⟨#[],rfl,rfl⟩) hk hfi)
  cases e with
  | normal =>
   obtain ⟨F4,H4,⟨Hc,Ho,ks,wk,k1,k2,k3,k4⟩,β4,hs4⟩:=he
   exact fin none .returning F4 H4 Hc Ho ks wk β4 (by simp) rfl hs4 k1 k2 k3 k4
  | ret =>
   obtain ⟨F4,H4,⟨Hc,Ho,ks,wk,k1,k2,k3,k4⟩,β4,hs4⟩:=he
   exact fin none .returning F4 H4 Hc Ho ks wk β4 (by simp) rfl hs4 k1 k2 k3 k4
  | exit id=>obtain ⟨_,_,h1,_⟩:=he;exact h1.elim
  | goto l=>exact he.elim
  | outgrown=>exact he.elim
  | panic ch =>
   obtain ⟨v,F4,H4,β4,u,⟨Hc,Ho,ks,wk,k1,k2,k3,k4⟩,hs4,hch,hrel⟩:=he
   exact fin (some v) (.panicking ch) F4 H4 Hc Ho ks wk β4 (by simp) ⟨u,by rw [hch],hrel⟩ hs4 k1 k2 k3 k4
 unfold wpListIn
 rcases hx2 with ⟨hg,res,ho,hres⟩|⟨hg,hres⟩
 ·rw [if_pos (guardA_ok hs2' hg)]
  refine opIn_mono (op_wp (Q:=fun _ _ _=>False) hd ho hs2 fun r H' hr=>?_) (fun e a w he=>by
   cases e with
   | normal=>obtain ⟨_,_,h1,_⟩:=he;exact h1.elim
   | exit id=>obtain ⟨_,_,h1,_⟩:=he;exact h1.elim
   | ret=>obtain ⟨_,_,h1,_⟩:=he;exact h1.elim
   | panic ch=>obtain ⟨_,_,_,_,_,h1,_⟩:=he;exact h1.elim
   | goto l=>exact he.elim
   | outgrown=>exact he.elim)
  have:=hres r H' hr
  cases r with
  | ret v=>exact fun a w hs=>tail a w _ _ this hs
  | pan v=>exact this
 ·rw [if_neg (by rw [guardA_ok hs2' hg];simp)]
  exact ⟨fun _ _=>trivial,tail _ _ _ _ hres ⟨β2,hs2'.undef hd⟩⟩
theorem aw_weak {G:Gh} {c:Code} {Q:APost} {F:Fr} {H:List AObj} (t:Nat) {v v':AVal} (h1:fget F t=some v) (hr:∀ (c:Ctx) u,Rel c v u→Rel c v' u) (h:AW P G c Q ((t,v')::F) H):AW P G c Q F H:=by
 rintro a w ⟨β,hs⟩
 refine h a w ⟨β,hs.inv,hs.step,hs.extOk,hs.size,hs.defers,fun s x hx=>?_⟩
 simp only [fget] at hx
 cases hb:Nat.beq t s with
 | true =>
  rw [hb] at hx;simp at hx;subst hx
  have:=Nat.eq_of_beq_eq_true hb
  subst this
  obtain ⟨u,g1,g2⟩:=hs.get t v h1
  exact ⟨u,g1,hr _ u g2⟩
 | false=>rw [hb] at hx;exact hs.get s x hx
theorem jweak {G:Gh} {Q:APost} {F F':Fr} {H:List AObj} {k:Kt} {c:Code} (t:Nat) {v:AVal} (v':AVal) (h1:fget F t=some v) (hF:fsetO F t v'=some F') (hr:∀ (c:Ctx) u,Rel c v u→Rel c v' u) (h:J P G Q (.c c k) F' H):J P G Q (.c c k) F H :=
 aw_weak t h1 hr (aw_frame F' (fun s u hs=>fsetO_get hF s u hs) h)
theorem aw_weakB {G:Gh} {c:Code} {Q:APost} {F:Fr} {H:List AObj} (j:Nat) {bt:TypeId} {cs cs':List AVal} (hj:H[j]? = some (.box bt cs)) (ho:cs'.all AVal.one=true) (hr:∀ (c:Ctx) us,RelL c cs us→RelL c cs' us) (h:AW P G c Q F (H.set j (.box bt cs'))):AW P G c Q F H:=by
 rintro a w ⟨β,hs⟩
 refine h a w ⟨β,⟨by rw [List.length_set];exact hs.inv.len,fun i o e hi he=>?_,hs.inv.uniq,hs.inv.sep⟩,hs.step,hs.extOk,hs.size,hs.defers,hs.get⟩
 by_cases hij:i=j
 ·subst hij
  have hlt:=(List.getElem?_eq_some_iff.1 hj).1
  rw [List.getElem?_set_self hlt] at hi
  injection hi with hi;subst hi
  obtain ⟨g1,g2,b,us,g3,g4,g5⟩:=hs.inv.obj i _ e hj he
  exact ⟨g1,ho,b,us,g3,g4,hr _ _ g5⟩
 ·rw [List.getElem?_set_ne (by omega)] at hi
  exact hs.inv.obj i o e hi he
theorem jweakB {G:Gh} {Q:APost} {F:Fr} {H H':List AObj} {k:Kt} {c:Code} (j:Nat) {bt:TypeId} {cs:List AVal} (cs':List AVal) (hj:H[j]? = some (.box bt cs)) (ho:cs'.all AVal.one=true) (hH:hsetO H j (.box bt cs')=some H') (hr:∀ (c:Ctx) us,RelL c cs us→RelL c cs' us) (h:J P G Q (.c c k) F H'):J P G Q (.c c k) F H:=by
 rw [hsetO_eq hH] at h
 exact aw_weakB j hj ho hr h
theorem relL_cons {c:Ctx} {x y:AVal} {xs ys:List AVal} (h1:∀ u,Rel c x u→Rel c y u) (h2:∀ us,RelL c xs us→RelL c ys us):∀ us,RelL c (x::xs) us→RelL c (y::ys) us:=by
 rintro _ ⟨u,us,rfl,r,rs⟩
 exact ⟨u,us,rfl,h1 u r,h2 us rs⟩
theorem slf_slz {c:Ctx} {xs:List AVal} {u:Value} (h:Rel c (.slf xs) u):Rel c (.slz xs) u:=by
 obtain ⟨A,es,h1,h2,h3⟩:=h
 exact ⟨A,_,es,h1,Nat.le_refl _,h2,h3,fun e=>by rw [e];rfl⟩
theorem slz_slf {c:Ctx} {u:Value} (h:Rel c (.slz []) u):Rel c (.slf []) u:=by
 obtain ⟨A,m,es,h1,h2,h3,h4,h5⟩:=h
 exact ⟨A,es,by rw [h1,h5 rfl];rfl,h3,h4⟩
theorem sl_slz {c:Ctx} {x:AVal} {xs:List AVal} {u:Value} (h:Rel c (.sl (x::xs)) u):Rel c (.slz (x::xs)) u:=by
 obtain ⟨A,m,es,h1,h2,h3,h4⟩:=h
 exact ⟨A,m,es,h1,h2,h3,h4,fun e=>by cases e⟩
theorem arr_at [T:TyTab P] {dst:Option Tmp} {t:TypeId} {x:Operand} {type:TypeId} {pos:String} {after:Array Edge} {guard:Option (Nat × Bool)} {F:Fr} {H:List AObj} {j off len cap n:Nat} {e:TypeId} {r:TyRow}
  (hx:ev F x=some (.bs j off len cap)) (ht:tfind T.tab t=some r) (hd:r.d = .array n e) (hn:n≤len):DSem P .p ⟨dst,.sliceToArrayPointer t x,type,pos,after,guard⟩ F H (.ptr j off) H:=by
 refine ⟨rfl,fun H'=>?_⟩
 intro ext w β ρ hI hext hκ hρ
 obtain ⟨ent,b,e1,e2,e3,hu⟩:=hρ x (by simp [Op.operands]) _ hx
 have h4:(execOp ρ ⟨dst,.sliceToArrayPointer t x,type,pos,after,guard⟩).run P w = .ok (.value (.pointer (some ⟨b,off,none⟩))) w:=by
  have hlt:¬len < n:=by omega
  simp [execOp,Instr.arrayAt,hu,run_und ht,hd,hlt]
 rw [h4]
 exact came_same hI ⟨ent,b,e1,e2,e3,rfl⟩
end
end Go.AL
end
