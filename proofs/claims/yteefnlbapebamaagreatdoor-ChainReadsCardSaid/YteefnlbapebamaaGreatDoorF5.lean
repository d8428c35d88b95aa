/-
  Part 5 of the proof texts: the program logic over the model, then the contracts of the functions that the laws reach. No conditions.
-/
import Derived.Test.YteefnlbapebamaaGreatDoorF4
import Derived.ChangeKeysEq
import Derived.KernelRfl
import Derived.Test.YteefnlbapebamaaGreatDoorProg
import Derived.Shelf.Small.Strs
import Derived.Shelf.Small.Wraps
import Derived.Shelf.Strconv.Itoa3
import Derived.Shelf.Strconv.AtoiAll
import Derived.Shelf.Strings.Search3
import Derived.Shelf.Strings.Count
import Derived.Shelf.Strings.Split
import Derived.Shelf.Strings.FuncGrows
import Derived.Shelf.LaysM
import Derived.Shelf.LaysC
import Derived.Shelf.Strings.Builder1
import Derived.Shelf.Strings.OnBuilder
import Derived.Lib.SmallJoins
import Derived.Lib.Split
import Derived.Lib.SplitLaws
set_option linter.unusedVariables false
set_option linter.unusedSimpArgs false
section
namespace Go.AL
open Go
theorem drawn_any {P:Program} {G:Gh} {Q:APost} [T:TyTab P] {l:List Oper} {L:List (Nat × Oper × K)} {F:Fr} {H:List AObj} (hops:∀ x∈L,l.toArray[x.1]? = some x.2.1) (hc:drawOkT l L=true)
  (h:AWD P G l.toArray (fun F H=>Q .normal F H) L F H) {a:Act} {w:World} (hs:St G F H a w):wpAnyIn (fz G.rd) 0 P .any l.toArray (lift G fun e F H=>∃ F0,FrEq F0 F∧Q e F0 H) l.toArray.size (Array.replicate l.toArray.size false) a w:=by
 simp only [drawOkT,Bool.and_eq_true] at hc
 obtain ⟨c1,c2⟩:=hc
 have c1:=Nat.eq_of_beq_eq_true c1
 have c3:=drawGoT_split (ops:=l.toArray) (fun i y hy=>by simp [maskOf] at hy) hops c2
 have n1:(L.map (·.1)).Nodup:=split_nodup fun L1 x L2 e y hy=>(c3 L1 x L2 e).2.2.1 y hy
 let Q':APost:=fun e F H=>∃ F0,FrEq F0 F∧Q e F0 H
 have hQ':∀ F F' H,FrEq F F'→Q' .normal F H→Q' .normal F' H:=fun F F' H he ⟨F0,h0,h1⟩=>⟨F0,fun t=>(h0 t).trans (he t),h1⟩
 have h':AWD P G l.toArray (Q' .normal) L F H:=by
  have:∀ (L:List (Nat × Oper × K)) (F:Fr) (H:List AObj),AWD P G l.toArray (fun F H=>Q .normal F H) L F H→AWD P G l.toArray (Q' .normal) L F H:=by
   intro L
   induction L with
   | nil=>intro F H h;exact ⟨F,fun _=>rfl,h⟩
   | cons x r ih=>intro F H ⟨hd,v,H1,h1,h2⟩;exact ⟨hd,v,H1,h1,ih _ _ h2⟩
  exact this L F H h
 refine awd_anyT hQ' _ L _ F H (by simpa using c1) ⟨by simp,fun i hi=>?_⟩ hops n1 ?_ ?_ h' a _ hs
 ·have hm:i∈L.map (·.1):=nodup_full n1 (by simpa using c1) (fun y hy=>by
   obtain ⟨x,hx,rfl⟩:=List.mem_map.1 hy
   have:=(Array.getElem?_eq_some_iff.1 (hops x hx)).1
   simpa using this) i (by simpa using hi)
  obtain ⟨x,hx,hxi⟩:=List.mem_map.1 hm
  have hi':i < l.length:=by simpa using hi
  constructor
  ·intro _;exact ⟨x,hx,hxi⟩
  ·intro _;simp [hi']
 ·intro L1 x L2 hL
  obtain ⟨s1,s2,s3,s4,s5,s6⟩:=c3 L1 x L2 hL
  refine ⟨fun y hy hyx e he hb hey=>?_,fun e he hb=>?_,fun y hy=>s5 y hy⟩
  ·rcases s1 e he hb with ⟨z,hz,hze⟩|⟨z,hz,_⟩
   ·rw [hL] at n1
    simp only [List.map_append,List.map_cons] at n1
    rw [List.nodup_append] at n1
    exact n1.2.2 z.1 (List.mem_map.2 ⟨z,hz,rfl⟩) y.1 (List.mem_cons_of_mem _ (List.mem_map.2 ⟨y,hy,rfl⟩)) (hze.trans hey)
   ·cases hz
  ·rcases s1 e he hb with ⟨z,hz,hze⟩|⟨z,hz,_⟩
   ·have hz':z∈L:=by rw [hL];exact List.mem_append_left _ hz
    have:=(Array.getElem?_eq_some_iff.1 (hops z hz')).1
    exact ⟨by rw [←hze];exact this,fun hex=>s3 z hz (hze.trans hex)⟩
   ·cases hz
 ·intro z o ho hz
  have hlt:=(Array.getElem?_eq_some_iff.1 ho).1
  simp at hlt
  simp [hlt] at hz
def lastOk (l:List Oper) (o:Oper):Bool :=
 (l++[o]).all (fun x=>x.guard.isNone)&&((List.range l.length).all (fun i=>(List.range (l.length+1)).any fun j=>Nat.blt i j&&(match (l++[o])[j]? with|some x=>waits x i|none=>false)) &&
  (List.range (l.length+1)).all (fun j=>match (l++[o])[j]? with|some x=>x.after.toList.all (fun e=>!Region.binds .any e||Nat.blt e.on j)|none=>true))
theorem push_get' {b:Array Bool} {i:Nat} {d:Bool} (h:i < b.size):(b.push false).getD i d=b.getD i d:=by
 simp only [Array.getD_eq_getD_getElem?,Array.getElem?_push_lt h,Array.getElem?_eq_getElem h]
theorem push_set {b:Array Bool} {i:Nat} (h:i < b.size):(b.push false).setIfInBounds i true=(b.setIfInBounds i true).push false:=by
 apply Array.ext_getElem?
 intro j
 rcases Nat.lt_trichotomy j b.size with hj|hj|hj
 ·rw [Array.getElem?_setIfInBounds,Array.getElem?_push_lt (by simpa using hj)]
  by_cases e:i=j
  ·subst e;simp [Array.getElem_setIfInBounds,h,Nat.lt_succ_of_lt h,Array.getElem_push_lt]
  ·simp [e,Array.getElem?_push_lt hj,Array.getElem?_push_lt (show j < (b.setIfInBounds i true).size by simpa using hj),Array.getElem_setIfInBounds,hj]
 ·subst hj
  rw [Array.getElem?_setIfInBounds_ne (by omega)]
  have e1:(b.push false)[b.size]? = some false:=by simp
  have e2:((b.setIfInBounds i true).push false)[b.size]? = some false:=by
   have:=Array.getElem?_push_size (xs:=b.setIfInBounds i true) (x:=false)
   simpa using this
  rw [e1,e2]
 ·rw [Array.getElem?_eq_none (by simp;omega),Array.getElem?_eq_none (by simp;omega)]
theorem opIn_mono2 {P:Program} {Fn:Fence} {n:Nat} {o:Oper} {a:Act} {w:World} {K:Act→World→Prop} {Q Q':Exit→Act→World→Prop} (h:o.wpIn Fn n P a w K Q) (hq:∀ ch a w,Q (.panic ch) a w→Q' (.panic ch) a w) (hq2:∀ a w,Q .outgrown a w→Q' .outgrown a w):o.wpIn Fn n P a w K Q':=by
 refine ⟨h.1,?_⟩
 have h2:=h.2
 generalize (o.semAt Fn.round a.eval).run P w=r at h2
 cases r with
 | ok x w' =>
  cases x<;>simp only [Oper.uponIn] at h2 ⊢<;>try exact h2
  ·refine ⟨h2.1,CallsIn.mono h2.2 fun e w'' he=>?_⟩
   cases e with
   | returned v=>exact he
   | panicked ch=>exact hq _ _ _ he
   | outgrown=>exact let ⟨a,w,h⟩:=he;⟨a,w,hq2 _ _ h⟩
  ·refine ⟨h2.1,RoundIn.mono h2.2 fun e w'' he=>?_⟩
   cases e with
   | returned v=>exact he
   | panicked ch=>exact hq _ _ _ he
   | outgrown=>exact let ⟨a,w,h⟩:=he;⟨a,w,hq2 _ _ h⟩
 | halt x w' =>
  cases x<;>simp only [Oper.uponIn] at h2 ⊢<;>first|exact hq _ _ _ h2|exact h2
section
variable {P:Program} {G:Gh} {Q Q1:APost} {l:List Oper} {o:Oper}
def ClosedL (l:List Oper) (b:Array Bool):Prop:=∀ i x,l[i]? = some x→b.getD i false=true→∀ e∈x.after,Region.binds .any e=true→b.getD e.on false=true
theorem any_last (hl:lastOk l o=true) (hq1:∀ e F H,e ≠ .normal→¬Q1 e F H) (hQ:∀ a w,lift G Q1 .normal a w→o.wpIn (fz G.rd) 0 P a w (fun a w=>lift G Q .normal a w) (lift G Q)) :
  ∀ (m:Nat) (b:Array Bool) (a:Act) (w:World),b.size=l.length→ClosedL l b→wpAnyIn (fz G.rd) 0 P .any l.toArray (lift G Q1) m b a w→wpAnyIn (fz G.rd) 0 P .any (l++[o]).toArray (lift G Q) (m+1) (b.push false) a w:=by
 simp only [lastOk,Bool.and_eq_true,List.all_eq_true,List.mem_range] at hl
 obtain ⟨g1,g2,g3⟩:=hl
 have hgd:∀ x∈l++[o],x.guard=none:=fun x hx=>by simpa using g1 x hx
 have hwn:∀ x∈l++[o],∀ y,Region.wanted x y=true:=fun x hx y=>by unfold Region.wanted;rw [hgd x hx]
 have hlow:∀ j x,(l++[o])[j]? = some x→∀ e∈x.after,Region.binds .any e=true→e.on < j:=fun j x hx e he hb=>by
  have hj:j < l.length+1:=by have:=(List.getElem?_eq_some_iff.1 hx).1;simpa using this
  have h:=g3 j hj
  rw [hx] at h
  simp only [List.all_eq_true] at h
  have:=h e (by simpa using he)
  rw [hb] at this
  simpa [Nat.blt_eq] using this
 have hop:∀ i,i < l.length→(l++[o]).toArray[i]? = l.toArray[i]?:=fun i hi=>by
  simp [List.getElem?_append_left hi]
 have hbadE:∀ e a w,e ≠ .normal→¬lift G Q1 e a w:=by
  intro e a w hne h
  cases e with
  | normal=>exact hne rfl
  | exit id=>obtain ⟨F,H,h1,_⟩:=h;exact hq1 _ _ _ (by simp) h1
  | ret=>obtain ⟨F,H,h1,_⟩:=h;exact hq1 _ _ _ (by simp) h1
  | panic ch=>obtain ⟨v,F,H,β,u,h1,_⟩:=h;exact hq1 _ _ _ (by simp) h1
  | goto l=>exact h.elim
  | outgrown=>exact h.elim
 -- what is ready
 have rd:∀ (b:Array Bool),b.size=l.length→∀ i,i < l.length→(i∈Region.ready .any (l++[o]).toArray (b.push false)↔i∈Region.ready .any l.toArray b):=by
  intro b hb i hi
  rw [mem_ready,mem_ready,hop i hi,push_get' (by omega)]
  constructor
  ·rintro ⟨h1,x,hx,h2⟩
   refine ⟨h1,x,hx,fun e he hbd=>?_⟩
   have hlt:=hlow i x (by rw [←hop i hi] at hx;simpa using hx) e he hbd
   have:=h2 e he hbd
   rwa [push_get' (by omega)] at this
  ·rintro ⟨h1,x,hx,h2⟩
   refine ⟨h1,x,hx,fun e he hbd=>?_⟩
   have hlt:=hlow i x (by rw [←hop i hi] at hx;simpa using hx) e he hbd
   rw [push_get' (by omega)]
   exact h2 e he hbd
 have hmin:∀ (b:Array Bool),b.size=l.length→(∃ i,i < l.length∧b.getD i true=false)→∃ i,i < l.length∧i∈Region.ready .any l.toArray b:=by
  rintro b hb ⟨i,hi,hf⟩
  induction i using Nat.strongRecOn with
  | _ i ih =>
   by_cases hx:∃ j,j < i∧b.getD j true=false
   ·obtain ⟨j,hj,hjf⟩:=hx
    exact ih j hj (by omega) hjf
   ·refine ⟨i,hi,mem_ready.2 ⟨hf,l[i],by simp [hi],fun e he hbd=>?_⟩⟩
    have hlt:=hlow i l[i] (by rw [List.getElem?_append_left hi,List.getElem?_eq_getElem hi]) e he hbd
    have:¬b.getD e.on true=false:=fun h=>hx ⟨e.on,hlt,h⟩
    have hs:e.on < b.size:=by omega
    simp only [Array.getD_eq_getD_getElem?,Array.getElem?_eq_getElem hs,Option.getD_some] at this ⊢
    simpa using this
 have hall:∀ (b:Array Bool),b.size=l.length→ClosedL l b→l.length∈Region.ready .any (l++[o]).toArray (b.push false)→∀ i,i < l.length→b.getD i false=true:=by
  intro b hb hc hr
  obtain ⟨_,x,hx,h2⟩:=mem_ready.1 hr
  have hx:x=o:=by simpa using hx.symm
  subst hx
  have:∀ d i,i < l.length→l.length-i=d→b.getD i false=true:=by
   intro d
   induction d using Nat.strongRecOn with
   | _ d ih =>
    intro i hi hd
    have h:=g2 i hi
    obtain ⟨j,hj,hw⟩:=List.any_eq_true.1 h
    rw [Bool.and_eq_true,Nat.blt_eq] at hw
    obtain ⟨hij,hw⟩:=hw
    have hj:j < l.length+1:=by simpa using hj
    cases hjx:(l++[x])[j]? with
    | none=>rw [hjx] at hw;cases hw
    | some y =>
     rw [hjx] at hw
     simp only [waits,List.any_eq_true,Bool.and_eq_true] at hw
     obtain ⟨e,he,hbd,hon⟩:=hw
     have hon:=Nat.eq_of_beq_eq_true hon
     by_cases hjl:j=l.length
     ·subst hjl
      have hy:y=x:=by simpa using hjx.symm
      subst hy
      have:=h2 e (by simpa using he) hbd
      rw [hon,push_get' (by omega)] at this
      exact this
     ·have hj2:j < l.length:=by omega
      have h3:=ih (l.length-j) (by omega) j hj2 rfl
      rw [List.getElem?_append_left hj2] at hjx
      have:=hc j y hjx h3 e (by simpa using he) hbd
      rwa [hon] at this
  exact fun i hi=>this _ i hi rfl
 -- the last one
 have hlast:∀ (m:Nat) (b:Array Bool) (a:Act) (w:World),b.size=l.length→(∀ i,i < l.length→b.getD i false=true)→lift G Q1 .normal a w→wpAnyIn (fz G.rd) 0 P .any (l++[o]).toArray (lift G Q) (m+1) (b.push false) a w:=by
  intro m b a w hb hfull hq
  have hend:Region.ready .any (l++[o]).toArray ((b.push false).setIfInBounds l.length true)=[]:=by
   cases hr:Region.ready .any (l++[o]).toArray ((b.push false).setIfInBounds l.length true) with
   | nil=>rfl
   | cons i r =>
    exfalso
    have hi:i∈Region.ready .any (l++[o]).toArray ((b.push false).setIfInBounds l.length true):=by rw [hr];exact List.mem_cons_self ..
    obtain ⟨h0,x,hx,_⟩:=mem_ready.1 hi
    have hlt:i < l.length+1:=by have:=(Array.getElem?_eq_some_iff.1 hx).1;simpa using this
    have:((b.push false).setIfInBounds l.length true).getD i true=true:=by
     by_cases e:i=l.length
     ·subst e;simp [hb]
     ·have h1:=hfull i (by omega)
      have hs:i < b.size:=by omega
      have hne:l.length≠i:=by omega
      simp only [Array.getD_eq_getD_getElem?,Array.getElem?_eq_getElem hs,Option.getD_some] at h1
      simp [Array.getD_eq_getD_getElem?,Array.getElem?_setIfInBounds_ne hne,Array.getElem?_push_lt hs,h1]
    rw [this] at h0;cases h0
  refine ⟨fun hr=>?_,fun i hi=>?_⟩
  ·exfalso
   have:l.length∈Region.ready .any (l++[o]).toArray (b.push false):=by
    refine mem_ready.2 ⟨by simp [←hb],o,by simp,fun e he hbd=>?_⟩
    have hlt:=hlow l.length o (by simp) e he hbd
    rw [push_get' (by omega)]
    exact hfull _ hlt
   rw [hr] at this;cases this
  ·have hil:i=l.length:=by
    obtain ⟨h0,x,hx,_⟩:=mem_ready.1 hi
    have hlt:i < l.length+1:=by have:=(Array.getElem?_eq_some_iff.1 hx).1;simpa using this
    by_cases e:i=l.length
    ·exact e
    ·exfalso
     have h1:=hfull i (by omega)
     rw [push_get' (by omega)] at h0
     have hs:i < b.size:=by omega
     simp only [Array.getD_eq_getD_getElem?,Array.getElem?_eq_getElem hs,Option.getD_some] at h0 h1
     rw [h1] at h0;cases h0
   subst hil
   unfold wpOpIn
   have hoo:(l++[o]).toArray[l.length]? = some o:=by simp
   rw [hoo]
   simp only
   rw [if_pos (hwn o (by simp) _)]
   refine Oper.wpIn_mono (fun a w h=>?_) (hQ a w hq)
   cases m with
   | zero=>exact ⟨hend,h⟩
   | succ m=>exact ⟨fun _=>h,fun i hi=>by rw [hend] at hi;cases hi⟩
 intro m
 induction m with
 | zero =>
  intro b a w hb hc h
  refine hlast 0 b a w hb (fun i hi=>?_) h.2
  by_cases hf:b.getD i true=false
  ·obtain ⟨j,_,hj⟩:=hmin b hb ⟨i,hi,hf⟩
   rw [h.1] at hj;cases hj
  ·have hs:i < b.size:=by omega
   simp only [Array.getD_eq_getD_getElem?,Array.getElem?_eq_getElem hs,Option.getD_some] at hf ⊢
   simpa using hf
 | succ m ih =>
  intro b a w hb hc h
  by_cases hfull:∀ i,i < l.length→b.getD i false=true
  ·refine hlast (m+1) b a w hb hfull (h.1 ?_)
   cases hr:Region.ready .any l.toArray b with
   | nil=>rfl
   | cons i r =>
    exfalso
    have hi:i∈Region.ready .any l.toArray b:=by rw [hr];exact List.mem_cons_self ..
    obtain ⟨h0,x,hx,_⟩:=mem_ready.1 hi
    have hlt:i < l.length:=by have:=(Array.getElem?_eq_some_iff.1 hx).1;simpa using this
    have h1:=hfull i hlt
    have hs:i < b.size:=by omega
    simp only [Array.getD_eq_getD_getElem?,Array.getElem?_eq_getElem hs,Option.getD_some] at h0 h1
    rw [h1] at h0;cases h0
  ·have hun:∃ i,i < l.length∧b.getD i true=false:=by
    rcases Classical.not_forall.1 hfull with ⟨i,hi⟩
    rcases Classical.not_imp.1 hi with ⟨hi,hf⟩
    refine ⟨i,hi,?_⟩
    have hs:i < b.size:=by omega
    simp only [Array.getD_eq_getD_getElem?,Array.getElem?_eq_getElem hs,Option.getD_some] at hf ⊢
    simpa using hf
   refine ⟨fun hr=>?_,fun i hi=>?_⟩
   ·obtain ⟨j,hj,hjr⟩:=hmin b hb hun
    have:=(rd b hb j hj).2 hjr
    rw [hr] at this;cases this
   ·obtain ⟨h0,x,hx,h2⟩:=mem_ready.1 hi
    have hlt:i < l.length+1:=by have:=(Array.getElem?_eq_some_iff.1 hx).1;simpa using this
    by_cases e:i=l.length
    ·exact absurd (hall b hb hc (e ▸ hi)) hfull
    ·have hi2:i < l.length:=by omega
     have hir:=(rd b hb i hi2).1 hi
     have hstep:=h.2 i hir
     unfold wpOpIn at hstep ⊢
     rw [hop i hi2]
     have hxl:l.toArray[i]? = some x:=by rw [←hop i hi2];exact hx
     rw [hxl] at hstep ⊢
     simp only at hstep ⊢
     have hxm:x∈l++[o]:=by
      have:l[i]? = some x:=by simpa using hxl
      exact List.mem_append_left _ (List.mem_of_getElem? this)
     rw [if_pos (hwn x hxm _)] at hstep ⊢
     refine opIn_mono2 (Oper.wpIn_mono (fun a w hk=>?_) hstep) (fun ch a w he=>absurd he (hbadE _ _ _ (by simp))) (fun a w he=>absurd he (hbadE _ _ _ (by simp)))
     ·rw [push_set (by omega)]
      refine ih _ a w (by simpa using hb) (fun j y hy hj e he hbd=>?_) hk
      have hset:∀ q,b.getD q false=true→(b.setIfInBounds i true).getD q false=true:=fun q hq=>by
       by_cases eq:i=q
       ·subst eq;simp [Array.getD_eq_getD_getElem?,show i < b.size by omega]
       ·simpa [Array.getD_eq_getD_getElem?,Array.getElem?_setIfInBounds_ne eq] using hq
      by_cases ej:i=j
      ·subst ej
       have hyx:y=x:=by
        have:l[i]? = some x:=by simpa using hxl
        rw [this] at hy;injection hy with hy;exact hy.symm
       subst hyx
       have hlt2:=hlow i y (by rw [List.getElem?_append_left hi2];exact hy) e he hbd
       have:=h2 e he hbd
       rw [push_get' (by omega)] at this
       exact hset _ this
      ·have hj':b.getD j false=true:=by simpa [Array.getD_eq_getD_getElem?,Array.getElem?_setIfInBounds_ne ej] using hj
       exact hset _ (hc j y hy hj' e he hbd)
def spl {α:Type}:List α→Option (List α × α)
 | []=>none
 | [a]=>some ([],a)
 | a::b::r=>match spl (b::r) with
  | some (l,o)=>some (a::l,o)
  | none=>none
theorem spl_eq {α:Type}:∀ {L l:List α} {o:α},spl L=some (l,o)→L=l++[o]
 | [],_,_,h=>by simp [spl] at h
 | [a],l,o,h=>by simp [spl] at h;obtain ⟨rfl,rfl⟩:=h;rfl
 | a::b::r,l,o,h=>by
  simp only [spl] at h
  split at h
  ·rename_i l' o' he
   injection h with h;injection h with h1 h2;subst h1;subst h2
   rw [spl_eq he];rfl
  ·cases h
theorem jdrawE [T:TyTab P] {id:Nat} {L l:List Oper} {o:Oper} {F:Fr} {H:List AObj} {k:Kt} (pl:List (Nat × K)) (hs:spl L=some (l,o)) (hp:pl.all (fun x=>Nat.blt x.1 l.length)=true) (hc:drawOkT l (plan l pl)=true) (hl:lastOk l o=true)
  (next:J P G (Only fun F' H'=>J P G Q (.l L.toArray [o] k) F' H') (.d l.toArray (plan l pl) .nil) F H):J P G Q (.c (.region id L.toArray true) k) F H:=by
 intro a w hst
 rw [spl_eq hs] at next ⊢
 have hst':St G F H a { w with drawn:=w.drawn+1 }:=by
  obtain ⟨β,hs⟩:=hst
  exact ⟨β,hs.world (hs.inv.same (drew_same w)) ((drew_same w).step β)⟩
 refine wpIn_region_any T.mixed ?_
 have h1:=drawn_any (Q:=Only fun F' H'=>J P G Q (.l (l++[o]).toArray [o] k) F' H') (plan_ops hp) hc next hst'
 have h2:=any_last (P:=P) (G:=G) (Q:=post P G Q k) hl (Q1:=fun e F H=>∃ F0,FrEq F0 F∧Only (fun F' H'=>J P G Q (.l (l++[o]).toArray [o] k) F' H') e F0 H) (fun e F H hne ⟨F0,_,h⟩=>by cases e<;>first|exact hne rfl|exact h.elim) (fun a w ⟨F',H',⟨F0,h0,hj⟩,hs⟩=>?_) l.toArray.size (Array.replicate l.toArray.size false) a _ (by simp) (fun i x hx hi=>by
   exfalso
   have:i < l.length:=(List.getElem?_eq_some_iff.1 hx).1
   simp [Array.getD_eq_getD_getElem?,this] at hi) h1
 ·have e1:(l++[o]).toArray.size=l.toArray.size+1:=by simp
  have e2:Array.replicate ((l++[o]).toArray.size) false=(Array.replicate l.toArray.size false).push false:=by rw [e1,Array.replicate_succ]
  rw [e2,e1]
  exact h2
 ·have hs0:=hs.eq (fun t=>(h0 t).symm)
  have hgn:o.guard=none:=by
   simp only [lastOk,Bool.and_eq_true,List.all_eq_true] at hl
   simpa using hl.1 o (by simp)
  obtain ⟨hd,hx⟩:=hj
  rcases hx with ⟨_,res,ho,hr⟩|⟨hg,_⟩
  ·exact op_wp hd ho hs0 fun r H' hres=>by
    have:=hr r H' hres
    cases r with
    | ret v=>exact fun a w hs=>⟨_,_,this,hs⟩
    | pan v=>exact this
  ·simp [guardA,hgn] at hg
theorem jat {F:Fr} {H:List AObj} {x:AExit} (h:Q x F H):J P G Q (.e x .nil) F H:=h
theorem jonly {K:Fr→List AObj→Prop} {F:Fr} {H:List AObj} (h:K F H):J P G (Only K) (.e .normal .nil) F H:=h
end
end Go.AL
end
section
namespace Go.AL
open Go
theorem Came.weak {ext:Nat→Prop} {w:World} {β:List Ent} {v v':AVal} {H:List AObj} (hr:∀ (c:Ctx) u,Rel c v u→Rel c v' u) {u:Value} {w':World} (h:Came ext w β (one v H) .ret u w'):Came ext w β (one v' H) .ret u w':=by
 obtain ⟨x,H',β',⟨h1,h2⟩,h3,h4,h5⟩:=h
 injection h1 with h1
 subst h1;subst h2
 exact ⟨v',H',β',⟨rfl,rfl⟩,hr _ _ h3,h4,h5⟩
theorem Ended.weak {ext:Nat→Prop} {w:World} {β:List Ent} {v v':AVal} {H:List AObj} (hr:∀ (c:Ctx) u,Rel c v u→Rel c v' u):∀ {e:Ending} {w':World},Ended ext w β (one v H) e w'→Ended ext w β (one v' H) e w'
 | .returned u,w',h=>Came.weak hr h
 | .panicked ch,w',⟨u,h1,x,H',β',⟨h2,_⟩,_⟩=>by cases h2
 | .outgrown,_,h=>h.elim
theorem Upon.weak {P:Program} {ext:Nat→Prop} {w:World} {β:List Ent} {v v':AVal} {H:List AObj} (hr:∀ (c:Ctx) u,Rel c v u→Rel c v' u):∀ {r:Result Next},Upon P ext w β (one v H) r→Upon P ext w β (one v' H) r:=by
 intro r h
 unfold Upon at *
 split at h
 ·exact Came.weak hr h
 ·exact Came.weak hr h
 ·exact Calls.mono h fun e w'' he=>Ended.weak hr he
 ·exact RoundIn.mono h fun e w'' he=>Ended.weak hr he
 ·obtain ⟨x,H',β',⟨h2,_⟩,_⟩:=h
  cases h2
 ·exact h.elim
theorem DSem.wkn {P:Program} {k:K} {o:Oper} {F:Fr} {H H1:List AObj} {v v':AVal} (hr:∀ (c:Ctx) u,Rel c v u→Rel c v' u) (h:DSem P k o F H v H1):DSem P k o F H v' H1:=by
 cases k with
 | p=>exact ⟨h.1,fun H' ext w β ρ a b c d=>(h.2 H' ext w β ρ a b c d).weak hr⟩
 | r=>exact ⟨h.1,fun H' hb ext w β ρ a b c d=>(h.2 H' hb ext w β ρ a b c d).weak hr⟩
 | s=>exact ⟨h.1,fun ext w β ρ a b c d=>(h.2 ext w β ρ a b c d).weak hr⟩
 | x=>exact ⟨h.1,fun ext w β ρ a b c d=>(h.2 ext w β ρ a b c d).weak hr⟩
 | m=>exact fun ext w β ρ a b c d=>(h ext w β ρ a b c d).weak hr
 | y i j=>exact ⟨h.1,fun H' hb ext w β ρ a b c d=>(h.2 H' hb ext w β ρ a b c d).weak hr⟩
 | w i j=>exact ⟨h.1,h.2.1,fun T ext w β ρ a b c d=>(h.2.2 T ext w β ρ a b c d).weak hr⟩
 | a=>obtain ⟨T,e,h⟩:=h;exact ⟨T,e,fun H' hl ext w β ρ a b c d=>(h H' hl ext w β ρ a b c d).weak hr⟩
theorem jow {P:Program} {G:Gh} {Q:APost} {F F':Fr} {H H':List AObj} {s s':Pt} {ops:Array Oper} {o:Oper} {kk:Option K} {kd:K} {v v':AVal} (h:nextO s=some (ops,o,kk,s')) (hg:guardA ops F o=some true) (hd:DSem P kd o F H v H') (hr:∀ (c:Ctx) u,Rel c v u→Rel c v' u) (hk:okK kd kk=true) (hp:putA G.n o.dst v' F=some F')
  (next:J P G Q s' F' H'):J P G Q s F H:=jo h hg (hd.wkn hr) hk hp next
theorem jfin {P:Program} {G:Gh} {Q:APost} {F:Fr} {H H':List AObj} {c:Code} {k:Kt} (n:Nat) (ts:List Nat) {vs vs':List AVal} (wk:Bool) (hp:fproj F ts=some vs) (hf:finish n [] wk H (.tup vs)=some (.tup vs',H')) (hn:Nat.ble n H.length=true) (hβ:G.β0.length≤n)
  (h:J P G Q (.c c k) (ts.zip vs') H'):J P G Q (.c c k) F H:=aw_fin (Q:=post P G Q k) n ts wk hp hf hn hβ h
end Go.AL
end
section
namespace Go.AL
open Go
section
variable {P:Program}
def allIntR (tab:List TyRow) (st:TypeId→Bool):Nat→TypeId→Bool
 | 0,_=>false
 | n+1,t=>match tfind tab t with
  | some r=>(match r.d with
   | .int .i64=>Nat.beq r.size 1
   | .struct fs=>!st t&&fieldsRun tab (allIntR tab st n) r.size 0 fs.toList
   | .array k e=>(match tfind tab e with
    | some re=>Nat.beq r.size (k*re.size)&&allIntR tab st n e
    | none=>false)
   | _=>false)
  | none=>false
theorem items_run [T:TyTab P] {d:Nat} {e:TypeId} {re:TyRow} (he:tfind T.tab e=some re) (hs:aggB re.d=false→re.size=1)
  (IH:∀ (xs ys:List Int) (w:World),xs.length=re.size→ys.length=re.size→(Op.equalIn d e (valI (aggB re.d) xs) (valI (aggB re.d) ys)).run P w = .ok (decide (xs=ys)) w)
  (xs ys:List Int):∀ (m off:Nat) (w:World),xs.length=(off+m)*re.size→ys.length=(off+m)*re.size →
   (Op.eqItems d e re.size (intsV xs).toArray (intsV ys).toArray (List.range' off m)).run P w = .ok (decide (xs.drop (off*re.size)=ys.drop (off*re.size))) w
 | 0,off,w,hx,hy=>by
  simp only [Nat.add_zero] at hx hy
  simp only [List.range',Op.eqItems,Sem.run_pure]
  rw [List.drop_of_length_le (by omega),List.drop_of_length_le (by omega)]
  simp
 | m+1,off,w,hx,hy=>by
  have hle:off*re.size+re.size≤(off+(m+1))*re.size:=by
   rw [←Nat.succ_mul]
   exact Nat.mul_le_mul_right _ (by omega)
  have p1:=part_ints (P:=P) he (xs:=xs) (off:=off*re.size) (by omega) hs w
  have p2:=part_ints (P:=P) he (xs:=ys) (off:=off*re.size) (by omega) hs w
  have ee:=IH ((xs.drop (off*re.size)).take re.size) ((ys.drop (off*re.size)).take re.size) w (by simp;omega) (by simp;omega)
  have hr:=items_run (d:=d) he hs IH xs ys m (off+1) w (by rw [hx];congr 1;omega) (by rw [hy];congr 1;omega)
  simp only [List.range',Op.eqItems,Sem.run_bind,p1,p2,Result.andThen_ok,ee]
  have hsp:=drop_split xs ys (off*re.size) re.size
  rw [←Nat.succ_mul] at hsp
  by_cases hq:(xs.drop (off*re.size)).take re.size=(ys.drop (off*re.size)).take re.size
  ·simp only [hq,decide_true,Bool.not_true,Bool.false_eq_true,if_false]
   rw [hr]
   congr 1
   simp only [hq,true_and] at hsp
   exact decide_eq_decide.2 hsp.symm
  ·have:¬(xs.drop (off*re.size)=ys.drop (off*re.size)):=fun h=>hq (by rw [h])
   simp [hq,this]
theorem allIntR_run [T:TyTab P]:∀ (n d:Nat) (t:TypeId) (r:TyRow),n≤d→allIntR T.tab P.stoodInHeld n t=true→tfind T.tab t=some r→(aggB r.d=false→r.size=1) ∧
  ∀ (xs ys:List Int) (w:World),xs.length=r.size→ys.length=r.size→(Op.equalIn d t (valI (aggB r.d) xs) (valI (aggB r.d) ys)).run P w = .ok (decide (xs=ys)) w
 | 0,d,t,r,_,h,_=>by cases h
 | n+1,0,t,r,hd,_,_=>absurd hd (by omega)
 | n+1,d+1,t,r,hd,h,ht=>by
  simp only [allIntR,ht] at h
  split at h
  ·rename_i hk
   have h1:=Nat.eq_of_beq_eq_true h
   refine ⟨fun _=>h1,fun xs ys w hx hy=>?_⟩
   rw [h1] at hx hy
   obtain ⟨x,rfl⟩:=List.length_eq_one_iff.1 hx
   obtain ⟨y,rfl⟩:=List.length_eq_one_iff.1 hy
   have hu:P.underlying t=some (.int .i64):=by rw [ty_und ht,hk]
   rw [hk]
   show (Op.equalIn (d+1) t (.int .i64 x) (.int .i64 y)).run P w=_
   rw [run_equalIn_int w d t .i64 .i64 x y hu]
   congr 1
   simp
   rfl
  ·rename_i fs hk
   simp only [Bool.and_eq_true,Bool.not_eq_true'] at h
   obtain ⟨h1,h2⟩:=h
   have hu:P.underlying t=some (.struct fs):=by rw [ty_und ht,hk]
   have hfo:P.fieldsOf t=fs:=by simp [Program.fieldsOf,hu]
   rw [hk]
   refine ⟨(fun h=>by cases h),fun xs ys w hx hy=>?_⟩
   show (Op.equalIn (d+1) t (.agg (intsV xs).toArray) (.agg (intsV ys).toArray)).run P w=_
   rw [run_equalIn_struct w d t _ _ (by rw [hfo];exact hu) h1,hfo]
   have key:∀ (gs:List Field) (off:Nat) (w:World),fieldsRun T.tab (allIntR T.tab P.stoodInHeld n) r.size off gs=true →
     (Op.eqFields d (intsV xs).toArray (intsV ys).toArray gs).run P w = .ok (decide (xs.drop off=ys.drop off)) w:=by
    intro gs
    induction gs with
    | nil =>
     intro off w hg
     have:=Nat.eq_of_beq_eq_true hg
     simp only [Op.eqFields,Sem.run_pure]
     rw [List.drop_of_length_le (by omega),List.drop_of_length_le (by omega)]
     simp
    | cons f gs ih =>
     intro off w hg
     have hle:=fieldsRun_le hg
     simp only [fieldsRun,Bool.and_eq_true] at hg
     obtain ⟨⟨⟨g1,g2⟩,g3⟩,g4⟩:=hg
     split at g4
     ·rename_i rf hrf
      have hle2:=fieldsRun_le g4
      have g1:=Nat.eq_of_beq_eq_true g1
      have g2:=of_decide_eq_true g2
      obtain ⟨a1,a2⟩:=allIntR_run n d f.type rf (by omega) g3 hrf
      have p1:=part_ints (P:=P) hrf (xs:=xs) (off:=off) (by omega) a1 w
      have p2:=part_ints (P:=P) hrf (xs:=ys) (off:=off) (by omega) a1 w
      have e:=a2 ((xs.drop off).take rf.size) ((ys.drop off).take rf.size) w (by simp;omega) (by simp;omega)
      simp only [Op.eqFields,g2,ne_eq,not_false_eq_true,if_true,Sem.run_bind,g1,p1,p2,Result.andThen_ok,e]
      by_cases hq:(xs.drop off).take rf.size=(ys.drop off).take rf.size
      ·simp only [hq,decide_true,Bool.not_true,Bool.false_eq_true,if_false]
       rw [ih _ w g4]
       congr 1
       have:=drop_split xs ys off rf.size
       simp only [hq,true_and] at this
       exact decide_eq_decide.2 this.symm
      ·have:¬(xs.drop off=ys.drop off):=fun h=>hq (by rw [h])
       simp [hq,this]
     ·cases g4
   have:=key fs.toList 0 w h2
   simpa using this
  ·rename_i k e hk
   split at h
   ·rename_i re hre
    simp only [Bool.and_eq_true] at h
    have h1:=Nat.eq_of_beq_eq_true h.1
    obtain ⟨a1,a2⟩:=allIntR_run n d e re (by omega) h.2 hre
    have hu:P.underlying t=some (.array k e):=by rw [ty_und ht,hk]
    obtain ⟨i,i1,i2,i3,i4⟩:=ty_info hre
    have hcs:P.cellsOf e=re.size:=by simp [Program.cellsOf,i1,i3]
    rw [hk]
    refine ⟨(fun h=>by cases h),fun xs ys w hx hy=>?_⟩
    show (Op.equalIn (d+1) t (.agg (intsV xs).toArray) (.agg (intsV ys).toArray)).run P w=_
    rw [run_equalIn_array w d _ _ hu i1,hcs,List.range_eq_range']
    have:=items_run (P:=P) (d:=d) hre a1 a2 xs ys k 0 w (by rw [hx,h1,Nat.zero_add]) (by rw [hy,h1,Nat.zero_add])
    simpa using this
   ·cases h
  ·cases h
theorem eq_intsR [T:TyTab P] {dst:Option Tmp} {op:BinOp} {t yt:TypeId} {x y:Operand} {type:TypeId} {pos:String} {after:Array Edge} {guard:Option (Nat × Bool)} {F:Fr} {H:List AObj} {xs ys:List Int} {r:TyRow}
  (hop:op = .eql∨op = .neq) (hx:ev F x=some (.agg (intsA xs))) (hy:ev F y=some (.agg (intsA ys))) (ht:tfind T.tab t=some r) (hlx:xs.length=r.size) (hly:ys.length=r.size) (ha:aggB r.d=true)
  (hi:allIntR T.tab P.stoodInHeld 100 t=true) (hg:P.eqGuardType P.depth t=false) :
  DSem P .p ⟨dst,.binOp op t x y yt,type,pos,after,guard⟩ F H (.v (.bool (if op = .eql then decide (xs=ys) else !decide (xs=ys)))) H:=by
 refine ⟨rfl,fun H'=>?_⟩
 intro ext w β ρ hI hext hκ hρ
 obtain ⟨a,e1,r1⟩:=hρ x (by simp [Op.operands]) _ hx
 obtain ⟨b,e2,r2⟩:=hρ y (by simp [Op.operands]) _ hy
 have h1:a=(intsV xs).toArray:=by apply Array.ext';simpa using intsA_rel r1
 have h2:b=(intsV ys).toArray:=by apply Array.ext';simpa using intsA_rel r2
 subst h1;subst h2
 have h3:=(allIntR_run (P:=P) 100 10000 t r (by omega) hi ht).2 xs ys w hlx hly
 rw [ha] at h3
 have h3':(Op.equal t (.agg (intsV xs).toArray) (.agg (intsV ys).toArray)).run P w = .ok (decide (xs=ys)) w:=h3
 have h4:(execOp ρ ⟨dst,.binOp op t x y yt,type,pos,after,guard⟩).run P w = .ok (.value (.bool (if op = .eql then decide (xs=ys) else !decide (xs=ys)))) w:=by
  rcases hop with rfl|rfl
  ·simp [execOp,e1,e2,eqGuard,hg,binOp,h3']
  ·simp [execOp,e1,e2,eqGuard,hg,binOp,h3']
 rw [h4]
 exact came_same hI rfl
end
end Go.AL
end
section
namespace Go.AL
open Go
end Go.AL
end
section
namespace Go.AL
open Go
section
variable {P:Program}
theorem index_pp [T:TyTab P] {dst:Option Tmp} {t:TypeId} {x i:Operand} {type:TypeId} {pos:String} {after:Array Edge} {guard:Option (Nat × Bool)} {F:Fr} {H:List AObj} {cs:List AVal} {off:Nat} {k:IntKind} {n:Int} {e:TypeId} {len:Nat} {r r':TyRow}
  (hx:ev F x=some (.pp cs off)) (hi:ev F i=some (.v (.int k n))) (ht:tfind T.tab t=some r') (hd:r'.d = .array len e) (he:tfind T.tab e=some r)
  (h0:0≤n) (hn:n < len):DSem P .p ⟨dst,.indexAddr t x i,type,pos,after,guard⟩ F H (.pp cs (off+n.toNat*r.size)) H:=by
 refine ⟨rfl,fun H'=>?_⟩
 intro ext w β ρ hI hext hκ hρ
 obtain ⟨b,o,us,hu,h1,h2,h3,h4⟩:=hρ x (by simp [Op.operands]) _ hx
 have hni:ρ i = .int k n:=hρ i (by simp [Op.operands]) _ hi
 have h5:(execOp ρ ⟨dst,.indexAddr t x i,type,pos,after,guard⟩).run P w = .ok (.value (.pointer (some ⟨b,o+off+n.toNat*r.size,none⟩))) w:=by
  have hcond:0≤n∧n < (len:Int):=⟨h0,hn⟩
  simp only [execOp,Instr.indexAt,Sem.run_bind,hni,hu,asIntOf,Sem.run_pure,Result.andThen_ok,run_und ht,hd,Instr.sureAddr,if_pos hcond,run_size he,addr_add]
 rw [h5]
 exact came_same hI ⟨b,o,us,by rw [Nat.add_assoc],h1,h2,h3,h4⟩
end
end Go.AL
end
section
namespace Go.AL
open Go
section
variable {P:Program} {G:Gh} {Q:APost} {F F':Fr} {H H':List AObj} {k:Kt}
theorem jS [T:TyTab P] {s s':Pt} (next:J P G Q s' F' H') (h:stp T.tab G.n F H s=some (s',F',H'):=by exact rfl):J P G Q s F H:=js h next
theorem jD [T:TyTab P] {id:Nat} {l:List Oper} (next:J P G Q (.d l.toArray (plan0 0 l) k) F H) (hc:drawOk l (plan0 0 l)=true:=by kernel_rfl):J P G Q (.c (.region id l.toArray true) k) F H:=jdraw hc next
theorem jB [T:TyTab P] {s s':Pt} {ops:Array Oper} {dst:Option Tmp} {o:Op} {type:TypeId} {pos:String} {after:Array Edge} {guard:Option (Nat × Bool)} {kk:Option K} {v:AVal} (next:J P G Q s' F' H)
  (h:nextO s=some (ops,⟨dst,o,type,pos,after,guard⟩,kk,s'):=by exact rfl) (hb:buildB T.tab o F=some v:=by exact rfl) (hg:guardA ops F ⟨dst,o,type,pos,after,guard⟩=some true:=by exact rfl) (hp:putA G.n dst v F=some F':=by exact rfl):J P G Q s F H:=jbu h hb hg hp next
theorem jV {f:FuncId} {args:List AVal} {v:AVal} (hc:ACalls P f args [] (one v [])) {s s':Pt} {ops:Array Oper} {dst:Option Tmp} {o:Op} {type:TypeId} {pos:String} {after:Array Edge} {guard:Option (Nat × Bool)} {kk:Option K} (next:J P G Q s' F' H)
  (h:nextO s=some (ops,⟨dst,o,type,pos,after,guard⟩,kk,s'):=by exact rfl) (ho:callO F o=some (f,args):=by exact rfl) (hg:guardA ops F ⟨dst,o,type,pos,after,guard⟩=some true:=by exact rfl) (hl:(ltL 0 args&&ltV 0 v)=true:=by exact rfl) (hp:putA G.n dst v F=some F':=by exact rfl):J P G Q s F H :=
 jv hc h ho hg hl hp next
theorem jR {tab:List TyRow} {rs:List ResultVar} {n:Nat} {r r' v:AVal} {Hv:List AObj} (h1:resA tab rs F H=some r:=by exact rfl) (h3:finish n [] true H r=some (r',H'):=by exact rfl) (h4:r'=v:=by exact rfl) (h5:H'=Hv:=by exact rfl):J P G (BodyQ tab rs n (one v Hv)) (.e .ret .nil) F H:=jr h1 h3 h4 h5
end
end Go.AL
end
section
namespace Go.AL
open Go
section
variable {P:Program} {G:Gh} {Q:APost} {F:Fr} {H:List AObj} {k:Kt}
end
end Go.AL
end
section
namespace Go.AL
open Go
section
variable {P:Program} {G:Gh} {Q:APost} {F F':Fr} {H H':List AObj} {k:Kt}
theorem jC [T:TyTab P] {f:FuncId} {fn:Func} {c:Code} {args:List AVal} {Q:Eff} {N:Nat} {rs:List ResultVar} (hf:P.funcs[f]? = some fn) (hN:fn.ntmps=N)
  (h:∀ w0 β0 ext,β0.length=H.length→J P ⟨w0,β0,ext,N,[],none,false⟩ (BodyQ T.tab rs H.length Q) (.c c .nil) (params 0 args) H)
  (hb:fn.body=some c:=by exact rfl) (hname:(fn.name == "runtime.NumGoroutine")=false:=by kernel_rfl) (hl:Nat.ble args.length N=true:=by exact rfl) (hrs:fn.results.toList=rs:=by exact rfl):ACalls P f args H Q:=jcalls hf hb hname hN hl hrs h
theorem jBb (σ:List Nat) {f:FuncId} {args0 args:List AVal} {v v':AVal} {H0 H1:List AObj} (hc:ACalls P f args0 H0 (one v H1)) {s s':Pt} {ops:Array Oper} {dst:Option Tmp} {o:Op} {type:TypeId} {pos:String} {after:Array Edge} {guard:Option (Nat × Bool)} {kk:Option K}
  (next:J P G Q s' F' H') (h:nextO s=some (ops,⟨dst,o,type,pos,after,guard⟩,kk,s'):=by exact rfl) (ho:callO F o=some (f,args):=by exact rfl) (hg:guardA ops F ⟨dst,o,type,pos,after,guard⟩=some true:=by exact rfl) (hσ:sigA σ H H0 args0 args:=by exact ⟨rfl,rfl,rfl,rfl,rfl,rfl⟩)
  (hv:nrm (rnV (tau σ H.length) v)=some v':=by exact rfl) (hH:nrmH (putBack (tau σ H.length) σ H H1)=some H':=by exact rfl) (hk:okK .m kk=true:=by exact rfl) (hp:putA G.n dst v' F=some F':=by exact rfl):J P G Q s F H :=
 jb σ hc h ho hg hσ hv hH hk hp next
theorem jI [T:TyTab P] {s s':Pt} {ops:Array Oper} {kk:Option K} {dst:Option Tmp} {t:TypeId} {x i:Operand} {type:TypeId} {pos:String} {after:Array Edge} {guard:Option (Nat × Bool)} {a:AVal} {α:Type} [Inhabited α] {enc:α→AVal} {l:List α} {kI:IntKind} {n:Int} {e:TypeId} {r r':TyRow}
  (h0:0≤n) (h1:n < l.length) (next:J P G Q s' F' H) (h:nextO s=some (ops,⟨dst,.indexAddr t x i,type,pos,after,guard⟩,kk,s'):=by exact rfl) (hg:guardA ops F ⟨dst,.indexAddr t x i,type,pos,after,guard⟩=some true:=by exact rfl)
  (hx:ev F x=some a:=by exact rfl) (ha:xsOf a=some (l.map enc):=by exact rfl) (hi:ev F i=some (.v (.int kI n)):=by exact rfl) (ht:tfind T.tab t=some r':=by exact rfl) (hd:r'.d = .slice e:=by exact rfl) (he:tfind T.tab e=some r:=by exact rfl)
  (hl:(enc (at' l n)).cells.length=r.size:=by exact rfl) (hf:(enc (at' l n)).flat=true:=by exact rfl) (hk:okK .p kk=true:=by exact rfl) (hp:putA G.n dst (.pp (enc (at' l n)).cells 0) F=some F':=by exact rfl):J P G Q s F H :=
 jo h hg (index_at hx ha hi ht hd he hl hf h0 h1) hk hp next
theorem jbl {β0:List Ent} {n m:Nat} (h:β0.length=m) (hn:Nat.ble m n=true:=by exact rfl):β0.length≤n:=by rw [h];exact Nat.le_of_ble_eq_true hn
end
end Go.AL
end
section
namespace Go.AL
open Go
def placeAt (o:Op) (F:Fr):Option Nat :=
 match o with
 | .load _ a=>match ev F a with|some (.ptr i _)=>some i|_=>none
 | .store _ a _=>match ev F a with|some (.ptr i _)=>some i|_=>none
 | _=>none
section
variable {P:Program}
theorem load_y [T:TyTab P] {dst:Option Tmp} {o:Op} {type:TypeId} {pos:String} {after:Array Edge} {guard:Option (Nat × Bool)} {F:Fr} {H:List AObj} {v v':AVal} {i n m:Nat} (hi:placeAt o F=some i) (hin:(Nat.blt i n||Nat.ble m i)=true) (h:loadB T.tab o F H=some v) (hv:open1 v=some v') :
  DSem P (.y n m) ⟨dst,o,type,pos,after,guard⟩ F H v' H:=by
 rw [open1_eq hv]
 have hlt:i < n∨m≤i:=by
  rw [Bool.or_eq_true] at hin
  exact hin.imp Nat.le_of_ble_eq_true Nat.le_of_ble_eq_true
 refine ⟨rfl,fun H' hb=>(loadB_dsem ?_).op⟩
 cases o<;>simp only [loadB] at h<;>try (cases h;done)
 rename_i t a
 simp only [placeAt] at hi
 unfold loadB
 simp only
 cases ha:ev F a with
 | none=>rw [ha] at h;cases h
 | some x =>
  rw [ha] at h hi
  cases x<;>simp only at h hi<;>try (cases h;done)
  rename_i k off
  injection hi with hi
  subst hi
  cases ht:tfind T.tab t with
  | none=>rw [ht] at h;cases h
  | some r =>
   rw [ht] at h
   simp only at h ⊢
   cases hj:H[k]? with
   | none=>rw [hj] at h;cases h
   | some ob =>
    rw [hj] at h
    cases ob<;>simp only at h<;>try (cases h;done)
    rename_i bt cs
    rw [hb k bt cs hlt hj]
    exact h
theorem set_but {H:List AObj} {i n m:Nat} {ob:AObj} (h:(Nat.ble n i&&Nat.blt i m)=true):BoxBut n m H (H.set i ob):=by
 rw [Bool.and_eq_true] at h
 have hle:n≤i:=Nat.le_of_ble_eq_true h.1
 have hle2:i < m:=Nat.le_of_ble_eq_true h.2
 intro k t' cs' hk hk2
 rw [List.getElem?_set_ne (by omega)]
 exact hk2
theorem alloc_a [T:TyTab P] {dst:Option Tmp} {o:Op} {type:TypeId} {pos:String} {after:Array Edge} {guard:Option (Nat × Bool)} {F:Fr} {H H':List AObj} {a a':AObj} {n:Nat} (h:allocB T.tab o F=some a) (hO:nrmO a=some a') (hn:lenH H=some n) (hH:H++[a']=H') :
  DSem P .a ⟨dst,o,type,pos,after,guard⟩ F H (.ptr n 0) H':=by
 have e:=nrmO_eq hO
 subst e
 rw [lenH_eq hn,←hH]
 exact ⟨_,rfl,fun H2 hl=>by rw [←hl];exact allocB_sem h⟩
theorem callW {F:Fr} {H H1:List AObj} {j:Nat} {t:TypeId} {cs cs':List AVal} {f:FuncId} {args0:List AVal} {x:Value} (hc:ACalls P f (.ptr 0 0::args0) [.box t cs] (one (.v x) [.box t cs'])) {dst:Option Tmp} {o:Op} {type:TypeId} {pos:String} {after:Array Edge} {guard:Option (Nat × Bool)}
  (h:callO F o=some (f,.ptr j 0::args0)) (hj:H[j]? = some (.box t cs)) (h1:ltL 1 args0=true) (h2:ltL 1 cs=true) (h3:ltL 0 args0=true) (h4:ltL 0 cs=true) (h5:ltL 0 cs'=true) (hH:H.set j (.box t cs')=H1):DSem P (.w j (j+1)) ⟨dst,o,type,pos,after,guard⟩ F H (.v x) H1:=by
 subst hH
 refine ⟨set_but (by rw [Bool.and_eq_true];exact ⟨Nat.ble_self_eq_true j,by simp [Nat.blt_eq]⟩),by simp,fun T=>?_⟩
 have hlt0:j < H.length:=(List.getElem?_eq_some_iff.1 hj).1
 rw [←List.set_append_left _ _ hlt0]
 have hj':(H++T)[j]? = some (.box t cs):=by rw [List.getElem?_append_left hlt0];exact hj
 generalize H++T=H' at *
 have hlt:j < H'.length:=(List.getElem?_eq_some_iff.1 hj').1
 have ht:tau [j] H'.length 0=j:=rfl
 have hbx:rnO (tau [j] H'.length) (.box t cs) = .box t cs:=by simp only [rnO,ltL_rn h4]
 have hbx':rnO (tau [j] H'.length) (.box t cs') = .box t cs':=by simp only [rnO,ltL_rn h5]
 have hf:=hc.from [j] (Hc:=H') (by simp [sigOk,keepOk.nodupB,hlt]) rfl (by simp only [ltL,ltV,List.length_singleton,h1,Bool.and_true];rfl) (by simp only [List.all_cons,List.all_nil,ltO,List.length_singleton,h2];rfl) (fun i k hik=>by
  cases i with
  | zero =>
   simp at hik
   subst hik
   rw [hj']
   simp only [List.getElem?_cons_zero,Option.map_some,hbx]
  | succ i=>simp at hik)
 have hargs:rnL (tau [j] H'.length) (.ptr 0 0::args0) = .ptr j 0::args0:=by simp only [rnL,rnV,ht,ltL_rn h3]
 rw [hargs] at hf
 refine callO_sem h (hf.mono ?_)
 rintro r G ⟨r0,Ho,⟨rfl,rfl⟩,_,rfl,rfl⟩
 refine ⟨rfl,?_⟩
 show (H'.set j (rnO _ (.box t cs')))++List.map (rnO _) []=H'.set j (.box t cs')
 rw [hbx',List.map_nil,List.append_nil]
end
end Go.AL
end
section
namespace Go.AL
open Go Go.Proofs
set_option maxRecDepth 100000
def ty2 : TyRow := ⟨2, .int .i64, .int .i64 0, 1, 8⟩
def ty3 : TyRow := ⟨3, .int .i64, .int .i64 0, 1, 8⟩
def ty9 : TyRow := ⟨9, .string, .string .empty, 1, 16⟩
def ty43 : TyRow := ⟨43, .struct #[⟨"Pc", 3, 0, false, "", "", 0⟩, ⟨"Regs", 40, 1, false, "", "", 8⟩, ⟨"Frames", 41, 9, false, "", "", 72⟩, ⟨"State", 3, 10, false, "", "", 96⟩, ⟨"Fault", 34, 11, false, "", "", 104⟩, ⟨"Left", 23, 12, false, "", "", 112⟩], .agg #[.int .i64 0, .int .i64 0, .int .i64 0, .int .i64 0, .int .i64 0, .int .i64 0, .int .i64 0, .int .i64 0, .int .i64 0, .slice none 0 0, .int .i64 0, .int .i64 0, .slice none 0 0], 13, 136⟩
def ty49 : TyRow := ⟨49, .struct #[⟨"Kind", 3, 0, false, "", "", 0⟩, ⟨"Thread", 3, 1, false, "", "", 8⟩, ⟨"Words", 47, 2, false, "", "", 16⟩], .agg #[.int .i64 0, .int .i64 0, .int .i64 0, .int .i64 0, .int .i64 0, .int .i64 0], 6, 48⟩
def ty159 : TyRow := ⟨159, .slice 222, .slice none 0 0, 1, 24⟩
def ty174 : TyRow := ⟨174, .struct #[⟨"Back", 3, 0, false, "", "", 0⟩, ⟨"Kept", 47, 1, false, "", "", 8⟩], .agg #[.int .i64 0, .int .i64 0, .int .i64 0, .int .i64 0, .int .i64 0], 5, 40⟩
def ty213 : TyRow := ⟨213, .struct #[⟨"name", 9, 0, false, "", "respite/asm", 0⟩, ⟨"kinds", 9, 1, false, "", "respite/asm", 16⟩], .agg #[.string .empty, .string .empty], 2, 32⟩
def ty222 : TyRow := ⟨222, .struct #[⟨"At", 3, 0, false, "", "", 0⟩, ⟨"Value", 3, 1, false, "", "", 8⟩], .agg #[.int .i64 0, .int .i64 0], 2, 16⟩
def ty279 : TyRow := ⟨279, .struct #[⟨"why", 34, 0, false, "", "respite/step", 0⟩], .agg #[.int .i64 0], 1, 8⟩
def tyRows : List TyRow := [ty2,
 ty3,
 ⟨4, .bool, .bool false, 1, 1⟩,
 ⟨5, .int .u8, .int .u8 0, 1, 1⟩,
 ⟨6, .int .u8, .int .u8 0, 1, 1⟩,
 ty9,
 ⟨10, .string, .string .empty, 1, 16⟩,
 ⟨11, .string, .string .empty, 1, 16⟩,
 ⟨12, .int .u64, .int .u64 0, 1, 8⟩,
 ⟨15, .pointer 373, .pointer none, 1, 8⟩,
 ⟨16, .pointer 376, .pointer none, 1, 8⟩,
 ⟨17, .pointer 383, .pointer none, 1, 8⟩,
 ⟨20, .interface #[], .nilIface, 1, 16⟩,
 ⟨21, .int .i32, .int .i32 0, 1, 4⟩,
 ⟨22, .slice 46, .slice none 0 0, 1, 24⟩,
 ⟨23, .slice 3, .slice none 0 0, 1, 24⟩,
 ⟨24, .slice 176, .slice none 0 0, 1, 24⟩,
 ⟨25, .struct #[⟨"Words", 23, 0, false, "", "", 0⟩, ⟨"Tags", 23, 1, false, "", "", 24⟩], .agg #[.slice none 0 0, .slice none 0 0], 2, 48⟩,
 ⟨26, .struct #[⟨"Words", 23, 0, false, "", "", 0⟩, ⟨"Tags", 23, 1, false, "", "", 24⟩], .agg #[.slice none 0 0, .slice none 0 0], 2, 48⟩,
 ⟨27, .slice 159, .slice none 0 0, 1, 24⟩,
 ⟨28, .struct #[⟨"Memory", 26, 0, false, "", "", 0⟩, ⟨"Depth", 3, 2, false, "", "", 48⟩, ⟨"Buffers", 27, 3, false, "", "", 56⟩], .agg #[.slice none 0 0, .slice none 0 0, .int .i64 0, .slice none 0 0], 4, 80⟩,
 ⟨29, .struct #[⟨"Memory", 26, 0, false, "", "", 0⟩, ⟨"Depth", 3, 2, false, "", "", 48⟩, ⟨"Buffers", 27, 3, false, "", "", 56⟩], .agg #[.slice none 0 0, .slice none 0 0, .int .i64 0, .slice none 0 0], 4, 80⟩,
 ⟨30, .slice 43, .slice none 0 0, 1, 24⟩,
 ⟨31, .slice 49, .slice none 0 0, 1, 24⟩,
 ⟨32, .struct #[⟨"Code", 24, 0, false, "", "", 0⟩, ⟨"Tso", 29, 1, false, "", "", 24⟩, ⟨"Threads", 30, 5, false, "", "", 104⟩, ⟨"Events", 31, 6, false, "", "", 128⟩], .agg #[.slice none 0 0, .slice none 0 0, .slice none 0 0, .int .i64 0, .slice none 0 0, .slice none 0 0, .slice none 0 0], 7, 152⟩,
 ⟨33, .struct #[⟨"Code", 24, 0, false, "", "", 0⟩, ⟨"Tso", 29, 1, false, "", "", 24⟩, ⟨"Threads", 30, 5, false, "", "", 104⟩, ⟨"Events", 31, 6, false, "", "", 128⟩], .agg #[.slice none 0 0, .slice none 0 0, .slice none 0 0, .int .i64 0, .slice none 0 0, .slice none 0 0, .slice none 0 0], 7, 152⟩,
 ⟨34, .int .i64, .int .i64 0, 1, 8⟩,
 ⟨40, .array 8 3, .agg #[.int .i64 0, .int .i64 0, .int .i64 0, .int .i64 0, .int .i64 0, .int .i64 0, .int .i64 0, .int .i64 0], 8, 64⟩,
 ⟨41, .slice 174, .slice none 0 0, 1, 24⟩,
 ⟨42, .struct #[⟨"Pc", 3, 0, false, "", "", 0⟩, ⟨"Regs", 40, 1, false, "", "", 8⟩, ⟨"Frames", 41, 9, false, "", "", 72⟩, ⟨"State", 3, 10, false, "", "", 96⟩, ⟨"Fault", 34, 11, false, "", "", 104⟩, ⟨"Left", 23, 12, false, "", "", 112⟩], .agg #[.int .i64 0, .int .i64 0, .int .i64 0, .int .i64 0, .int .i64 0, .int .i64 0, .int .i64 0, .int .i64 0, .int .i64 0, .slice none 0 0, .int .i64 0, .int .i64 0, .slice none 0 0], 13, 136⟩,
 ty43,
 ⟨45, .struct #[⟨"Key", 3, 0, false, "", "", 0⟩, ⟨"Value", 3, 1, false, "", "", 8⟩], .agg #[.int .i64 0, .int .i64 0], 2, 16⟩,
 ⟨46, .struct #[⟨"Key", 3, 0, false, "", "", 0⟩, ⟨"Value", 3, 1, false, "", "", 8⟩], .agg #[.int .i64 0, .int .i64 0], 2, 16⟩,
 ⟨47, .array 4 3, .agg #[.int .i64 0, .int .i64 0, .int .i64 0, .int .i64 0], 4, 32⟩,
 ⟨48, .struct #[⟨"Kind", 3, 0, false, "", "", 0⟩, ⟨"Thread", 3, 1, false, "", "", 8⟩, ⟨"Words", 47, 2, false, "", "", 16⟩], .agg #[.int .i64 0, .int .i64 0, .int .i64 0, .int .i64 0, .int .i64 0, .int .i64 0], 6, 48⟩,
 ty49,
 ⟨51, .slice 106, .slice none 0 0, 1, 24⟩,
 ⟨64, .func #[33] #[4, 34] false, .nilFunc, 1, 8⟩,
 ⟨68, .slice 119, .slice none 0 0, 1, 24⟩,
 ⟨83, .pointer 86, .pointer none, 1, 8⟩,
 ⟨84, .slice 5, .slice none 0 0, 1, 24⟩,
 ⟨85, .struct #[⟨"addr", 83, 0, false, "", "strings", 0⟩, ⟨"buf", 84, 1, false, "", "strings", 8⟩], .agg #[.pointer none, .slice none 0 0], 2, 32⟩,
 ⟨86, .struct #[⟨"addr", 83, 0, false, "", "strings", 0⟩, ⟨"buf", 84, 1, false, "", "strings", 8⟩], .agg #[.pointer none, .slice none 0 0], 2, 32⟩,
 ⟨87, .interface #[("Error", 95)], .nilIface, 1, 16⟩,
 ⟨88, .interface #[("Error", 95)], .nilIface, 1, 16⟩,
 ⟨96, .slice 9, .slice none 0 0, 1, 24⟩,
 ⟨98, .pointer 100, .pointer none, 1, 8⟩,
 ⟨99, .struct #[⟨"w", 33, 0, false, "", "respite/sched", 0⟩, ⟨"done", 3, 7, false, "", "respite/sched", 152⟩], .agg #[.slice none 0 0, .slice none 0 0, .slice none 0 0, .int .i64 0, .slice none 0 0, .slice none 0 0, .slice none 0 0, .int .i64 0], 8, 160⟩,
 ⟨100, .struct #[⟨"w", 33, 0, false, "", "respite/sched", 0⟩, ⟨"done", 3, 7, false, "", "respite/sched", 152⟩], .agg #[.slice none 0 0, .slice none 0 0, .slice none 0 0, .int .i64 0, .slice none 0 0, .slice none 0 0, .slice none 0 0, .int .i64 0], 8, 160⟩,
 ⟨101, .func #[3] #[4] false, .nilFunc, 1, 8⟩,
 ⟨105, .struct #[⟨"Kind", 3, 0, false, "", "", 0⟩, ⟨"Thread", 3, 1, false, "", "", 8⟩], .agg #[.int .i64 0, .int .i64 0], 2, 16⟩,
 ⟨106, .struct #[⟨"Kind", 3, 0, false, "", "", 0⟩, ⟨"Thread", 3, 1, false, "", "", 8⟩], .agg #[.int .i64 0, .int .i64 0], 2, 16⟩,
 ⟨108, .pointer 110, .pointer none, 1, 8⟩,
 ⟨109, .struct #[⟨"Memory", 26, 0, true, "", "", 0⟩, ⟨"bad", 34, 2, false, "", "respite/chain", 48⟩], .agg #[.slice none 0 0, .slice none 0 0, .int .i64 0], 3, 56⟩,
 ⟨110, .struct #[⟨"Memory", 26, 0, true, "", "", 0⟩, ⟨"bad", 34, 2, false, "", "respite/chain", 48⟩], .agg #[.slice none 0 0, .slice none 0 0, .int .i64 0], 3, 56⟩,
 ⟨116, .array 3 3, .agg #[.int .i64 0, .int .i64 0, .int .i64 0], 3, 24⟩,
 ⟨117, .struct #[⟨"Kind", 3, 0, false, "", "", 0⟩, ⟨"At", 3, 1, false, "", "", 8⟩, ⟨"Value", 3, 2, false, "", "", 16⟩], .agg #[.int .i64 0, .int .i64 0, .int .i64 0], 3, 24⟩,
 ⟨118, .struct #[⟨"Kind", 3, 0, false, "", "", 0⟩, ⟨"At", 3, 1, false, "", "", 8⟩, ⟨"Value", 3, 2, false, "", "", 16⟩], .agg #[.int .i64 0, .int .i64 0, .int .i64 0], 3, 24⟩,
 ⟨119, .slice 118, .slice none 0 0, 1, 24⟩,
 ⟨120, .func #[131] #[] false, .nilFunc, 1, 8⟩,
 ⟨121, .struct #[⟨"reader", 120, 0, false, "", "respite/urcu", 0⟩, ⟨"writer", 120, 1, false, "", "respite/urcu", 8⟩], .agg #[.nilFunc, .nilFunc], 2, 16⟩,
 ⟨122, .struct #[⟨"reader", 120, 0, false, "", "respite/urcu", 0⟩, ⟨"writer", 120, 1, false, "", "respite/urcu", 8⟩], .agg #[.nilFunc, .nilFunc], 2, 16⟩,
 ⟨123, .array 2 122, .agg #[.nilFunc, .nilFunc, .nilFunc, .nilFunc], 4, 32⟩,
 ⟨125, .pointer 129, .pointer none, 1, 8⟩,
 ⟨126, .struct #[⟨"Builder", 86, 0, true, "", "", 0⟩], .agg #[.pointer none, .slice none 0 0], 2, 32⟩,
 ⟨127, .struct #[⟨"Builder", 86, 0, true, "", "", 0⟩], .agg #[.pointer none, .slice none 0 0], 2, 32⟩,
 ⟨128, .struct #[⟨"builder", 127, 0, true, "", "respite/urcu", 0⟩, ⟨"flavour", 122, 2, true, "", "respite/urcu", 32⟩], .agg #[.pointer none, .slice none 0 0, .nilFunc, .nilFunc], 4, 48⟩,
 ⟨129, .struct #[⟨"builder", 127, 0, true, "", "respite/urcu", 0⟩, ⟨"flavour", 122, 2, true, "", "respite/urcu", 32⟩], .agg #[.pointer none, .slice none 0 0, .nilFunc, .nilFunc], 4, 48⟩,
 ⟨131, .pointer 127, .pointer none, 1, 8⟩,
 ⟨144, .map 3 3, .map none, 1, 8⟩,
 ⟨149, .struct #[⟨"label", 9, 0, false, "", "respite/sched", 0⟩], .agg #[.string .empty], 1, 16⟩,
 ⟨150, .struct #[⟨"label", 9, 0, false, "", "respite/sched", 0⟩], .agg #[.string .empty], 1, 16⟩,
 ⟨152, .pointer 150, .pointer none, 1, 8⟩,
 ⟨154, .pointer 5, .pointer none, 1, 8⟩,
 ty159,
 ⟨166, .array 2 101, .agg #[.nilFunc, .nilFunc], 2, 16⟩,
 ⟨167, .func #[46] #[4] false, .nilFunc, 1, 8⟩,
 ⟨173, .struct #[⟨"Back", 3, 0, false, "", "", 0⟩, ⟨"Kept", 47, 1, false, "", "", 8⟩], .agg #[.int .i64 0, .int .i64 0, .int .i64 0, .int .i64 0, .int .i64 0], 5, 40⟩,
 ty174,
 ⟨175, .struct #[⟨"Op", 3, 0, false, "", "", 0⟩, ⟨"A", 3, 1, false, "", "", 8⟩, ⟨"B", 3, 2, false, "", "", 16⟩, ⟨"C", 3, 3, false, "", "", 24⟩], .agg #[.int .i64 0, .int .i64 0, .int .i64 0, .int .i64 0], 4, 32⟩,
 ⟨176, .struct #[⟨"Op", 3, 0, false, "", "", 0⟩, ⟨"A", 3, 1, false, "", "", 8⟩, ⟨"B", 3, 2, false, "", "", 16⟩, ⟨"C", 3, 3, false, "", "", 24⟩], .agg #[.int .i64 0, .int .i64 0, .int .i64 0, .int .i64 0], 4, 32⟩,
 ⟨186, .map 9 3, .map none, 1, 8⟩,
 ⟨188, .map 5 251, .map none, 1, 8⟩,
 ⟨199, .int .u64, .int .u64 0, 1, 8⟩,
 ⟨203, .interface #[("AssignableTo", 208), ("Comparable", 37), ("Elem", 205), ("Implements", 208), ("Kind", 207), ("Name", 95), ("PkgPath", 95), ("Size", 384), ("String", 95), ("internal/reflectlite.common", 377), ("internal/reflectlite.uncommon", 385)], .nilIface, 1, 16⟩,
 ⟨204, .interface #[("AssignableTo", 208), ("Comparable", 37), ("Elem", 205), ("Implements", 208), ("Kind", 207), ("Name", 95), ("PkgPath", 95), ("Size", 384), ("String", 95), ("internal/reflectlite.common", 377), ("internal/reflectlite.uncommon", 385)], .nilIface, 1, 16⟩,
 ⟨206, .int .u8, .int .u8 0, 1, 1⟩,
 ⟨212, .struct #[⟨"name", 9, 0, false, "", "respite/asm", 0⟩, ⟨"kinds", 9, 1, false, "", "respite/asm", 16⟩], .agg #[.string .empty, .string .empty], 2, 32⟩,
 ty213,
 ⟨214, .array 27 213, .agg #[.string .empty, .string .empty, .string .empty, .string .empty, .string .empty, .string .empty, .string .empty, .string .empty, .string .empty, .string .empty, .string .empty, .string .empty, .string .empty, .string .empty, .string .empty, .string .empty, .string .empty, .string .empty, .string .empty, .string .empty, .string .empty, .string .empty, .string .empty, .string .empty, .string .empty, .string .empty, .string .empty, .string .empty, .string .empty, .string .empty, .string .empty, .string .empty, .string .empty, .string .empty, .string .empty, .string .empty, .string .empty, .string .empty, .string .empty, .string .empty, .string .empty, .string .empty, .string .empty, .string .empty, .string .empty, .string .empty, .string .empty, .string .empty, .string .empty, .string .empty, .string .empty, .string .empty, .string .empty, .string .empty], 54, 864⟩,
 ⟨217, .func #[176] #[4] false, .nilFunc, 1, 8⟩,
 ⟨221, .struct #[⟨"At", 3, 0, false, "", "", 0⟩, ⟨"Value", 3, 1, false, "", "", 8⟩], .agg #[.int .i64 0, .int .i64 0], 2, 16⟩,
 ty222,
 ⟨228, .pointer 233, .pointer none, 1, 8⟩,
 ⟨232, .struct #[⟨"World", 33, 0, true, "", "", 0⟩, ⟨"who", 3, 7, false, "", "respite/step", 152⟩, ⟨"own", 43, 8, false, "", "respite/step", 160⟩, ⟨"Instr", 176, 21, true, "", "", 296⟩], .agg #[.slice none 0 0, .slice none 0 0, .slice none 0 0, .int .i64 0, .slice none 0 0, .slice none 0 0, .slice none 0 0, .int .i64 0, .int .i64 0, .int .i64 0, .int .i64 0, .int .i64 0, .int .i64 0, .int .i64 0, .int .i64 0, .int .i64 0, .int .i64 0, .slice none 0 0, .int .i64 0, .int .i64 0, .slice none 0 0, .int .i64 0, .int .i64 0, .int .i64 0, .int .i64 0], 25, 328⟩,
 ⟨233, .struct #[⟨"World", 33, 0, true, "", "", 0⟩, ⟨"who", 3, 7, false, "", "respite/step", 152⟩, ⟨"own", 43, 8, false, "", "respite/step", 160⟩, ⟨"Instr", 176, 21, true, "", "", 296⟩], .agg #[.slice none 0 0, .slice none 0 0, .slice none 0 0, .int .i64 0, .slice none 0 0, .slice none 0 0, .slice none 0 0, .int .i64 0, .int .i64 0, .int .i64 0, .int .i64 0, .int .i64 0, .int .i64 0, .int .i64 0, .int .i64 0, .int .i64 0, .int .i64 0, .slice none 0 0, .int .i64 0, .int .i64 0, .slice none 0 0, .int .i64 0, .int .i64 0, .int .i64 0, .int .i64 0], 25, 328⟩,
 ⟨239, .array 3 34, .agg #[.int .i64 0, .int .i64 0, .int .i64 0], 3, 24⟩,
 ⟨244, .array 24 5, .agg #[.int .u8 0, .int .u8 0, .int .u8 0, .int .u8 0, .int .u8 0, .int .u8 0, .int .u8 0, .int .u8 0, .int .u8 0, .int .u8 0, .int .u8 0, .int .u8 0, .int .u8 0, .int .u8 0, .int .u8 0, .int .u8 0, .int .u8 0, .int .u8 0, .int .u8 0, .int .u8 0, .int .u8 0, .int .u8 0, .int .u8 0, .int .u8 0], 24, 24⟩,
 ⟨245, .int .u64, .int .u64 0, 1, 8⟩,
 ⟨251, .func #[9] #[3, 34] false, .nilFunc, 1, 8⟩,
 ⟨256, .func #[9, 9] #[96] false, .nilFunc, 1, 8⟩,
 ⟨258, .slice 213, .slice none 0 0, 1, 24⟩,
 ⟨260, .struct #[⟨"Type", 17, 0, true, "", "", 0⟩], .agg #[.pointer none], 1, 8⟩,
 ⟨261, .struct #[⟨"Type", 17, 0, true, "", "", 0⟩], .agg #[.pointer none], 1, 8⟩,
 ⟨262, .pointer 387, .pointer none, 1, 8⟩,
 ⟨266, .interface #[("As", 268)], .nilIface, 1, 16⟩,
 ⟨269, .interface #[("Unwrap", 270)], .nilIface, 1, 16⟩,
 ⟨271, .interface #[("Unwrap", 273)], .nilIface, 1, 16⟩,
 ⟨272, .slice 88, .slice none 0 0, 1, 24⟩,
 ⟨278, .struct #[⟨"why", 34, 0, false, "", "respite/step", 0⟩], .agg #[.int .i64 0], 1, 8⟩,
 ty279,
 ⟨295, .array 20 245, .agg #[.int .u64 0, .int .u64 0, .int .u64 0, .int .u64 0, .int .u64 0, .int .u64 0, .int .u64 0, .int .u64 0, .int .u64 0, .int .u64 0, .int .u64 0, .int .u64 0, .int .u64 0, .int .u64 0, .int .u64 0, .int .u64 0, .int .u64 0, .int .u64 0, .int .u64 0, .int .u64 0], 20, 160⟩,
 ⟨296, .int .u32, .int .u32 0, 1, 4⟩,
 ⟨298, .int .u64, .int .u64 0, 1, 8⟩,
 ⟨304, .func #[312] #[] false, .nilFunc, 1, 8⟩,
 ⟨305, .struct #[⟨"registers", 3, 0, false, "", "respite/local", 0⟩, ⟨"target", 3, 1, false, "", "respite/local", 8⟩, ⟨"do", 304, 2, false, "", "respite/local", 16⟩], .agg #[.int .i64 0, .int .i64 0, .nilFunc], 3, 24⟩,
 ⟨306, .struct #[⟨"registers", 3, 0, false, "", "respite/local", 0⟩, ⟨"target", 3, 1, false, "", "respite/local", 8⟩, ⟨"do", 304, 2, false, "", "respite/local", 16⟩], .agg #[.int .i64 0, .int .i64 0, .nilFunc], 3, 24⟩,
 ⟨307, .array 16 306, .agg #[.int .i64 0, .int .i64 0, .nilFunc, .int .i64 0, .int .i64 0, .nilFunc, .int .i64 0, .int .i64 0, .nilFunc, .int .i64 0, .int .i64 0, .nilFunc, .int .i64 0, .int .i64 0, .nilFunc, .int .i64 0, .int .i64 0, .nilFunc, .int .i64 0, .int .i64 0, .nilFunc, .int .i64 0, .int .i64 0, .nilFunc, .int .i64 0, .int .i64 0, .nilFunc, .int .i64 0, .int .i64 0, .nilFunc, .int .i64 0, .int .i64 0, .nilFunc, .int .i64 0, .int .i64 0, .nilFunc, .int .i64 0, .int .i64 0, .nilFunc, .int .i64 0, .int .i64 0, .nilFunc, .int .i64 0, .int .i64 0, .nilFunc, .int .i64 0, .int .i64 0, .nilFunc], 48, 384⟩,
 ⟨312, .pointer 314, .pointer none, 1, 8⟩,
 ⟨313, .struct #[⟨"Thread", 43, 0, true, "", "", 0⟩, ⟨"self", 3, 13, false, "", "respite/local", 136⟩, ⟨"Instr", 176, 14, true, "", "", 144⟩], .agg #[.int .i64 0, .int .i64 0, .int .i64 0, .int .i64 0, .int .i64 0, .int .i64 0, .int .i64 0, .int .i64 0, .int .i64 0, .slice none 0 0, .int .i64 0, .int .i64 0, .slice none 0 0, .int .i64 0, .int .i64 0, .int .i64 0, .int .i64 0, .int .i64 0], 18, 176⟩,
 ⟨314, .struct #[⟨"Thread", 43, 0, true, "", "", 0⟩, ⟨"self", 3, 13, false, "", "respite/local", 136⟩, ⟨"Instr", 176, 14, true, "", "", 144⟩], .agg #[.int .i64 0, .int .i64 0, .int .i64 0, .int .i64 0, .int .i64 0, .int .i64 0, .int .i64 0, .int .i64 0, .int .i64 0, .slice none 0 0, .int .i64 0, .int .i64 0, .slice none 0 0, .int .i64 0, .int .i64 0, .int .i64 0, .int .i64 0, .int .i64 0], 18, 176⟩,
 ⟨328, .struct #[⟨"Tso", 29, 0, true, "", "", 0⟩], .agg #[.slice none 0 0, .slice none 0 0, .int .i64 0, .slice none 0 0], 4, 80⟩,
 ⟨329, .struct #[⟨"Tso", 29, 0, true, "", "", 0⟩], .agg #[.slice none 0 0, .slice none 0 0, .int .i64 0, .slice none 0 0], 4, 80⟩,
 ⟨334, .func #[3, 3, 3] #[3] false, .nilFunc, 1, 8⟩,
 ⟨335, .array 3 334, .agg #[.nilFunc, .nilFunc, .nilFunc], 3, 24⟩,
 ⟨339, .array 32 5, .agg #[.int .u8 0, .int .u8 0, .int .u8 0, .int .u8 0, .int .u8 0, .int .u8 0, .int .u8 0, .int .u8 0, .int .u8 0, .int .u8 0, .int .u8 0, .int .u8 0, .int .u8 0, .int .u8 0, .int .u8 0, .int .u8 0, .int .u8 0, .int .u8 0, .int .u8 0, .int .u8 0, .int .u8 0, .int .u8 0, .int .u8 0, .int .u8 0, .int .u8 0, .int .u8 0, .int .u8 0, .int .u8 0, .int .u8 0, .int .u8 0, .int .u8 0, .int .u8 0], 32, 32⟩,
 ⟨341, .int .i64, .int .i64 0, 1, 8⟩,
 ⟨344, .pointer 359, .pointer none, 1, 8⟩,
 ⟨354, .pointer 329, .pointer none, 1, 8⟩,
 ⟨358, .struct #[⟨"Func", 9, 0, false, "", "", 0⟩, ⟨"Num", 9, 1, false, "", "", 16⟩, ⟨"Err", 88, 2, false, "", "", 32⟩], .agg #[.string .empty, .string .empty, .nilIface], 3, 48⟩,
 ⟨359, .struct #[⟨"Func", 9, 0, false, "", "", 0⟩, ⟨"Num", 9, 1, false, "", "", 16⟩, ⟨"Err", 88, 2, false, "", "", 32⟩], .agg #[.string .empty, .string .empty, .nilIface], 3, 48⟩,
 ⟨363, .pointer 365, .pointer none, 1, 8⟩,
 ⟨364, .struct #[⟨"s", 9, 0, false, "", "errors", 0⟩], .agg #[.string .empty], 1, 16⟩,
 ⟨365, .struct #[⟨"s", 9, 0, false, "", "errors", 0⟩], .agg #[.string .empty], 1, 16⟩,
 ⟨367, .struct #[⟨"lo", 5, 0, false, "", "unicode/utf8", 0⟩, ⟨"hi", 5, 1, false, "", "unicode/utf8", 1⟩], .agg #[.int .u8 0, .int .u8 0], 2, 2⟩,
 ⟨368, .struct #[⟨"lo", 5, 0, false, "", "unicode/utf8", 0⟩, ⟨"hi", 5, 1, false, "", "unicode/utf8", 1⟩], .agg #[.int .u8 0, .int .u8 0], 2, 2⟩,
 ⟨369, .array 16 368, .agg #[.int .u8 0, .int .u8 0, .int .u8 0, .int .u8 0, .int .u8 0, .int .u8 0, .int .u8 0, .int .u8 0, .int .u8 0, .int .u8 0, .int .u8 0, .int .u8 0, .int .u8 0, .int .u8 0, .int .u8 0, .int .u8 0, .int .u8 0, .int .u8 0, .int .u8 0, .int .u8 0, .int .u8 0, .int .u8 0, .int .u8 0, .int .u8 0, .int .u8 0, .int .u8 0, .int .u8 0, .int .u8 0, .int .u8 0, .int .u8 0, .int .u8 0, .int .u8 0], 32, 32⟩,
 ⟨374, .array 0 16, .agg #[], 0, 0⟩,
 ⟨378, .int .u8, .int .u8 0, 1, 1⟩,
 ⟨379, .func #[183, 183] #[4] false, .nilFunc, 1, 8⟩,
 ⟨380, .int .i32, .int .i32 0, 1, 4⟩,
 ⟨381, .int .i32, .int .i32 0, 1, 4⟩,
 ⟨382, .struct #[⟨"Size_", 12, 0, false, "", "", 0⟩, ⟨"PtrBytes", 12, 1, false, "", "", 8⟩, ⟨"Hash", 296, 2, false, "", "", 16⟩, ⟨"TFlag", 378, 3, false, "", "", 20⟩, ⟨"Align_", 5, 4, false, "", "", 21⟩, ⟨"FieldAlign_", 5, 5, false, "", "", 22⟩, ⟨"Kind_", 206, 6, false, "", "", 23⟩, ⟨"Equal", 379, 7, false, "", "", 24⟩, ⟨"GCData", 154, 8, false, "", "", 32⟩, ⟨"Str", 380, 9, false, "", "", 40⟩, ⟨"PtrToThis", 381, 10, false, "", "", 44⟩], .agg #[.int .u64 0, .int .u64 0, .int .u32 0, .int .u8 0, .int .u8 0, .int .u8 0, .int .u8 0, .nilFunc, .pointer none, .int .i32 0, .int .i32 0], 11, 48⟩,
 ⟨383, .struct #[⟨"Size_", 12, 0, false, "", "", 0⟩, ⟨"PtrBytes", 12, 1, false, "", "", 8⟩, ⟨"Hash", 296, 2, false, "", "", 16⟩, ⟨"TFlag", 378, 3, false, "", "", 20⟩, ⟨"Align_", 5, 4, false, "", "", 21⟩, ⟨"FieldAlign_", 5, 5, false, "", "", 22⟩, ⟨"Kind_", 206, 6, false, "", "", 23⟩, ⟨"Equal", 379, 7, false, "", "", 24⟩, ⟨"GCData", 154, 8, false, "", "", 32⟩, ⟨"Str", 380, 9, false, "", "", 40⟩, ⟨"PtrToThis", 381, 10, false, "", "", 44⟩], .agg #[.int .u64 0, .int .u64 0, .int .u32 0, .int .u8 0, .int .u8 0, .int .u8 0, .int .u8 0, .nilFunc, .pointer none, .int .i32 0, .int .i32 0], 11, 48⟩,
 ⟨386, .struct #[⟨"Method", 9, 0, false, "", "", 0⟩, ⟨"Kind", 206, 1, false, "", "", 16⟩], .agg #[.string .empty, .int .u8 0], 2, 24⟩,
 ⟨387, .struct #[⟨"Method", 9, 0, false, "", "", 0⟩, ⟨"Kind", 206, 1, false, "", "", 16⟩], .agg #[.string .empty, .int .u8 0], 2, 24⟩,
 ⟨388, .pointer 392, .pointer none, 1, 8⟩,
 ⟨390, .int .u16, .int .u16 0, 1, 2⟩,
 ⟨393, .slice 396, .slice none 0 0, 1, 24⟩,
 ⟨394, .int .i32, .int .i32 0, 1, 4⟩,
 ⟨395, .struct #[⟨"Name", 380, 0, false, "", "", 0⟩, ⟨"Mtyp", 381, 1, false, "", "", 4⟩, ⟨"Ifn", 394, 2, false, "", "", 8⟩, ⟨"Tfn", 394, 3, false, "", "", 12⟩], .agg #[.int .i32 0, .int .i32 0, .int .i32 0, .int .i32 0], 4, 16⟩,
 ⟨396, .struct #[⟨"Name", 380, 0, false, "", "", 0⟩, ⟨"Mtyp", 381, 1, false, "", "", 4⟩, ⟨"Ifn", 394, 2, false, "", "", 8⟩, ⟨"Tfn", 394, 3, false, "", "", 12⟩], .agg #[.int .i32 0, .int .i32 0, .int .i32 0, .int .i32 0], 4, 16⟩,
 ⟨397, .pointer 88, .pointer none, 1, 8⟩]
theorem tyOk_of {P : Program} : ∀ l : List TyRow, (l.map fun r => (P.underlying r.t, (P.info? r.t).map fun i => (i.zero, i.size, i.bytes))) = l.map (fun r => (some r.d, some (some r.z, r.size, r.bytes))) → TyOk P l
  | [], _ => trivial
  | r :: rs, h => by
    injection h with h1 h2
    injection h1 with h3 h4
    exact ⟨⟨h3, h4⟩, tyOk_of rs h2⟩
instance tyTab : TyTab Tryz.prog := ⟨tyRows, tyOk_of tyRows (by kernel_rfl), by kernel_rfl⟩
end Go.AL
end
section
namespace Go.Proofs
open Go.Shelf
def Tryz.lays137_ren:Go.Shelf.Ren:=⟨fun|137=>173|217=>220|266=>248|n=>n,fun|9=>9|5=>5|3=>3|n=>n,fun|n=>n⟩
theorem Tryz.lays137:Go.Proofs.Lays.n137 Tryz.prog Tryz.lays137_ren:={
 mixed:=by kernel_rfl
 f137:=Tryz.func173.trans (congrArg some (by kernel_rfl))
 f217:=Tryz.func220.trans (congrArg some (by kernel_rfl))
 f266:=Tryz.func248.trans (congrArg some (by kernel_rfl))
 t3:=Tryz.underlying3
 a3:=Tryz.isAgg3
 z3:=Tryz.sizeOf3
 v3:=Tryz.zeroValue3
 t5:=Tryz.underlying5
 a5:=Tryz.isAgg5
 z5:=Tryz.sizeOf5
 v5:=Tryz.zeroValue5
 t9:=Tryz.underlying9
 a9:=Tryz.isAgg9
 z9:=Tryz.sizeOf9
 v9:=Tryz.zeroValue9 }
open Go.RowKit in
theorem Tryz.strings_IndexByte (s:ByteArray) (c:Int) (w:World) :
  Calls Tryz.prog 173 #[.string s,.int .u8 c] w fun e w'=>e = .returned (.int .i64 (Lib.indexByte s.data.toList c.toNat.toUInt8))∧w'=w:=Any.strings_IndexByte Tryz.lays137 s c w
def Tryz.lays104_ren:Go.Shelf.Ren:=⟨fun|104=>120|211=>174|207=>221|n=>n,fun|9=>9|4=>4|24=>193|3=>3|n=>n,fun|n=>n⟩
theorem Tryz.lays104:Go.Proofs.Lays.n104 Tryz.prog Tryz.lays104_ren:={
 mixed:=by kernel_rfl
 f104:=Tryz.func120.trans (congrArg some (by kernel_rfl))
 f207:=Tryz.func221.trans (congrArg some (by kernel_rfl))
 f211:=Tryz.func174.trans (congrArg some (by kernel_rfl))
 t3:=Tryz.underlying3
 a3:=Tryz.isAgg3
 z3:=Tryz.sizeOf3
 v3:=Tryz.zeroValue3
 t4:=Tryz.underlying4
 a4:=Tryz.isAgg4
 z4:=Tryz.sizeOf4
 v4:=Tryz.zeroValue4
 t9:=Tryz.underlying9
 a9:=Tryz.isAgg9
 z9:=Tryz.sizeOf9
 v9:=Tryz.zeroValue9
 t24:=Tryz.underlying193
 a24:=Tryz.isAgg193
 z24:=Tryz.sizeOf193
 v24:=Tryz.zeroValue193 }
open Go.RowKit in
theorem Tryz.strings_CutSuffix (s p:ByteArray) (w:World) (hs:s.size≤9223372036854775807) :
  Calls Tryz.prog 120 #[.string s,.string p] w fun e w'=>e = .returned (.tuple #[.string ⟨(Lib.trimSuffix s.data.toList p.data.toList).toArray⟩,.bool (Lib.hasSuffix s.data.toList p.data.toList)])∧w'=w:=Any.strings_CutSuffix Tryz.lays104 s p w hs
def Tryz.laysM171_ren:Go.Shelf.Ren:=⟨fun|171=>40|243=>81|246=>116|283=>164|284=>165|285=>166|286=>167|129=>215|317=>214|318=>216|319=>217|320=>218|337=>244|338=>245|n=>n,fun|3=>3|9=>9|2=>2|4=>4|171=>244|0=>0|53=>245|37=>84|5=>5|173=>248|212=>295|51=>296|20=>20|213=>297|46=>298|232=>339|233=>340|n=>n,fun|17=>1|18=>2|19=>3|n=>n⟩
theorem Tryz.laysM171:Go.Proofs.LaysM.n171 Tryz.prog Tryz.laysM171_ren:={
 mixed:=by kernel_rfl
 f129:=Tryz.func215.trans (congrArg some (by kernel_rfl))
 f171:=Tryz.func40.trans (congrArg some (by kernel_rfl))
 f243:=Tryz.func81.trans (congrArg some (by kernel_rfl))
 f246:=Tryz.func116.trans (congrArg some (by kernel_rfl))
 f283:=Tryz.func164.trans (congrArg some (by kernel_rfl))
 f284:=Tryz.func165.trans (congrArg some (by kernel_rfl))
 f285:=Tryz.func166.trans (congrArg some (by kernel_rfl))
 f286:=Tryz.func167.trans (congrArg some (by kernel_rfl))
 f317:=Tryz.func214.trans (congrArg some (by kernel_rfl))
 f318:=Tryz.func216.trans (congrArg some (by kernel_rfl))
 f319:=Tryz.func217.trans (congrArg some (by kernel_rfl))
 f320:=Tryz.func218.trans (congrArg some (by kernel_rfl))
 f337:=Tryz.func244.trans (congrArg some (by kernel_rfl))
 f338:=Tryz.func245.trans (congrArg some (by kernel_rfl))
 t0:=Tryz.underlying0
 a0:=Tryz.isAgg0
 z0:=Tryz.sizeOf0
 v0:=Tryz.zeroValue0
 t2:=Tryz.underlying2
 a2:=Tryz.isAgg2
 z2:=Tryz.sizeOf2
 v2:=Tryz.zeroValue2
 t3:=Tryz.underlying3
 a3:=Tryz.isAgg3
 z3:=Tryz.sizeOf3
 v3:=Tryz.zeroValue3
 t4:=Tryz.underlying4
 a4:=Tryz.isAgg4
 z4:=Tryz.sizeOf4
 v4:=Tryz.zeroValue4
 t5:=Tryz.underlying5
 a5:=Tryz.isAgg5
 z5:=Tryz.sizeOf5
 v5:=Tryz.zeroValue5
 t9:=Tryz.underlying9
 a9:=Tryz.isAgg9
 z9:=Tryz.sizeOf9
 v9:=Tryz.zeroValue9
 t20:=Tryz.underlying20
 a20:=Tryz.isAgg20
 z20:=Tryz.sizeOf20
 v20:=Tryz.zeroValue20
 t37:=Tryz.underlying84
 a37:=Tryz.isAgg84
 z37:=Tryz.sizeOf84
 v37:=Tryz.zeroValue84
 t46:=Tryz.underlying298
 a46:=Tryz.isAgg298
 z46:=Tryz.sizeOf298
 v46:=Tryz.zeroValue298
 t51:=Tryz.underlying296
 a51:=Tryz.isAgg296
 z51:=Tryz.sizeOf296
 v51:=Tryz.zeroValue296
 t53:=Tryz.underlying245
 a53:=Tryz.isAgg245
 z53:=Tryz.sizeOf245
 v53:=Tryz.zeroValue245
 t171:=Tryz.underlying244
 a171:=Tryz.isAgg244
 z171:=Tryz.sizeOf244
 v171:=Tryz.zeroValue244
 t173:=Tryz.underlying248
 a173:=Tryz.isAgg248
 z173:=Tryz.sizeOf248
 v173:=Tryz.zeroValue248
 t212:=Tryz.underlying295
 a212:=Tryz.isAgg295
 z212:=Tryz.sizeOf295
 v212:=Tryz.zeroValue295
 t213:=Tryz.underlying297
 a213:=Tryz.isAgg297
 z213:=Tryz.sizeOf297
 t232:=Tryz.underlying339
 a232:=Tryz.isAgg339
 z232:=Tryz.sizeOf339
 v232:=Tryz.zeroValue339
 t233:=Tryz.underlying340
 a233:=Tryz.isAgg340
 z233:=Tryz.sizeOf340
 v233:=Tryz.zeroValue340
 g17:=by kernel_rfl
 g18:=by kernel_rfl
 g19:=by kernel_rfl
 i0:=by kernel_rfl
 i2:=by kernel_rfl
 i3:=by kernel_rfl
 i4:=by kernel_rfl
 i5:=by kernel_rfl
 i9:=by kernel_rfl
 i20:=by kernel_rfl
 i37:=by kernel_rfl
 i46:=by kernel_rfl
 i51:=by kernel_rfl
 i53:=by kernel_rfl
 i171:=by kernel_rfl
 i173:=by kernel_rfl
 i212:=by kernel_rfl
 i232:=by kernel_rfl
 i233:=by kernel_rfl
 m17:=by kernel_rfl
 m18:=by kernel_rfl
 m19:=by kernel_rfl }
open Go.RowKit Go.Sort Go.Lib in
theorem Tryz.strconv_Itoa (n:Int) (h0 : -9223372036854775808≤n) (h1:n≤9223372036854775807) (w:World) (htab:Lib.TabIs Tryz.prog w "internal/strconv.uint64pow10" .u64 Lib.pow10Tab) :
  Calls Tryz.prog 40 #[.int .i64 n] w fun e w'=>e = .returned (.string ⟨(Lib.itoa n).toArray⟩)∧∃ k os,w'=grow (w.drewN k) os:=Any.strconv_Itoa Tryz.laysM171 n h0 h1 w htab
def Tryz.laysC172_ren:Go.Shelf.Ren:=⟨fun|172=>219|244=>246|245=>247|247=>276|279=>277|280=>278|281=>279|282=>280|287=>292|316=>293|171=>40|205=>294|321=>300|322=>301|243=>81|246=>116|283=>164|284=>165|285=>166|286=>167|129=>215|317=>214|318=>216|319=>217|320=>218|337=>244|338=>245|n=>n,fun|9=>9|3=>3|75=>88|76=>89|4=>4|5=>5|167=>341|37=>84|0=>0|85=>342|2=>2|168=>344|53=>245|175=>355|46=>298|210=>359|127=>154|145=>365|143=>363|21=>21|171=>244|173=>248|212=>295|51=>296|20=>20|213=>297|232=>339|233=>340|80=>95|n=>n,fun|15=>5|16=>6|17=>1|18=>2|19=>3|n=>n⟩
theorem Tryz.laysC172:Go.Proofs.LaysC.n172 Tryz.prog Tryz.laysC172_ren:={
 mixed:=by kernel_rfl
 f129:=Tryz.func215.trans (congrArg some (by kernel_rfl))
 f171:=Tryz.func40.trans (congrArg some (by kernel_rfl))
 f172:=Tryz.func219.trans (congrArg some (by kernel_rfl))
 f205:=Tryz.func294.trans (congrArg some (by kernel_rfl))
 f243:=Tryz.func81.trans (congrArg some (by kernel_rfl))
 f244:=Tryz.func246.trans (congrArg some (by kernel_rfl))
 f245:=Tryz.func247.trans (congrArg some (by kernel_rfl))
 f246:=Tryz.func116.trans (congrArg some (by kernel_rfl))
 f247:=Tryz.func276.trans (congrArg some (by kernel_rfl))
 f279:=Tryz.func277.trans (congrArg some (by kernel_rfl))
 f280:=Tryz.func278.trans (congrArg some (by kernel_rfl))
 f281:=Tryz.func279.trans (congrArg some (by kernel_rfl))
 f282:=Tryz.func280.trans (congrArg some (by kernel_rfl))
 f283:=Tryz.func164.trans (congrArg some (by kernel_rfl))
 f284:=Tryz.func165.trans (congrArg some (by kernel_rfl))
 f285:=Tryz.func166.trans (congrArg some (by kernel_rfl))
 f286:=Tryz.func167.trans (congrArg some (by kernel_rfl))
 f287:=Tryz.func292.trans (congrArg some (by kernel_rfl))
 f316:=Tryz.func293.trans (congrArg some (by kernel_rfl))
 f317:=Tryz.func214.trans (congrArg some (by kernel_rfl))
 f318:=Tryz.func216.trans (congrArg some (by kernel_rfl))
 f319:=Tryz.func217.trans (congrArg some (by kernel_rfl))
 f320:=Tryz.func218.trans (congrArg some (by kernel_rfl))
 f321:=Tryz.func300.trans (congrArg some (by kernel_rfl))
 f322:=Tryz.func301.trans (congrArg some (by kernel_rfl))
 f337:=Tryz.func244.trans (congrArg some (by kernel_rfl))
 f338:=Tryz.func245.trans (congrArg some (by kernel_rfl))
 t0:=Tryz.underlying0
 a0:=Tryz.isAgg0
 z0:=Tryz.sizeOf0
 v0:=Tryz.zeroValue0
 t2:=Tryz.underlying2
 a2:=Tryz.isAgg2
 z2:=Tryz.sizeOf2
 v2:=Tryz.zeroValue2
 t3:=Tryz.underlying3
 a3:=Tryz.isAgg3
 z3:=Tryz.sizeOf3
 v3:=Tryz.zeroValue3
 t4:=Tryz.underlying4
 a4:=Tryz.isAgg4
 z4:=Tryz.sizeOf4
 v4:=Tryz.zeroValue4
 t5:=Tryz.underlying5
 a5:=Tryz.isAgg5
 z5:=Tryz.sizeOf5
 v5:=Tryz.zeroValue5
 t9:=Tryz.underlying9
 a9:=Tryz.isAgg9
 z9:=Tryz.sizeOf9
 v9:=Tryz.zeroValue9
 t20:=Tryz.underlying20
 a20:=Tryz.isAgg20
 z20:=Tryz.sizeOf20
 v20:=Tryz.zeroValue20
 t21:=Tryz.underlying21
 a21:=Tryz.isAgg21
 z21:=Tryz.sizeOf21
 v21:=Tryz.zeroValue21
 t37:=Tryz.underlying84
 a37:=Tryz.isAgg84
 z37:=Tryz.sizeOf84
 v37:=Tryz.zeroValue84
 t46:=Tryz.underlying298
 a46:=Tryz.isAgg298
 z46:=Tryz.sizeOf298
 v46:=Tryz.zeroValue298
 t51:=Tryz.underlying296
 a51:=Tryz.isAgg296
 z51:=Tryz.sizeOf296
 v51:=Tryz.zeroValue296
 t53:=Tryz.underlying245
 a53:=Tryz.isAgg245
 z53:=Tryz.sizeOf245
 v53:=Tryz.zeroValue245
 t75:=Tryz.underlying88
 a75:=Tryz.isAgg88
 z75:=Tryz.sizeOf88
 v75:=Tryz.zeroValue88
 t76:=Tryz.underlying89
 a76:=Tryz.isAgg89
 z76:=Tryz.sizeOf89
 v76:=Tryz.zeroValue89
 t85:=Tryz.underlying342
 a85:=Tryz.isAgg342
 z85:=Tryz.sizeOf342
 v85:=Tryz.zeroValue342
 t127:=Tryz.underlying154
 a127:=Tryz.isAgg154
 z127:=Tryz.sizeOf154
 v127:=Tryz.zeroValue154
 t143:=Tryz.underlying363
 a143:=Tryz.isAgg363
 z143:=Tryz.sizeOf363
 v143:=Tryz.zeroValue363
 t145:=Tryz.underlying365
 a145:=Tryz.isAgg365
 z145:=Tryz.sizeOf365
 v145:=Tryz.zeroValue365
 t167:=Tryz.underlying341
 a167:=Tryz.isAgg341
 z167:=Tryz.sizeOf341
 v167:=Tryz.zeroValue341
 t168:=Tryz.underlying344
 a168:=Tryz.isAgg344
 z168:=Tryz.sizeOf344
 v168:=Tryz.zeroValue344
 t171:=Tryz.underlying244
 a171:=Tryz.isAgg244
 z171:=Tryz.sizeOf244
 v171:=Tryz.zeroValue244
 t173:=Tryz.underlying248
 a173:=Tryz.isAgg248
 z173:=Tryz.sizeOf248
 v173:=Tryz.zeroValue248
 t175:=Tryz.underlying355
 a175:=Tryz.isAgg355
 z175:=Tryz.sizeOf355
 v175:=Tryz.zeroValue355
 t210:=Tryz.underlying359
 a210:=Tryz.isAgg359
 z210:=Tryz.sizeOf359
 v210:=Tryz.zeroValue359
 t212:=Tryz.underlying295
 a212:=Tryz.isAgg295
 z212:=Tryz.sizeOf295
 v212:=Tryz.zeroValue295
 t213:=Tryz.underlying297
 a213:=Tryz.isAgg297
 z213:=Tryz.sizeOf297
 t232:=Tryz.underlying339
 a232:=Tryz.isAgg339
 z232:=Tryz.sizeOf339
 v232:=Tryz.zeroValue339
 t233:=Tryz.underlying340
 a233:=Tryz.isAgg340
 z233:=Tryz.sizeOf340
 v233:=Tryz.zeroValue340
 g15:=by kernel_rfl
 g16:=by kernel_rfl
 g17:=by kernel_rfl
 g18:=by kernel_rfl
 g19:=by kernel_rfl
 t80:=Tryz.underlying95
 a80:=Tryz.isAgg95
 z80:=Tryz.sizeOf95
 v80:=Tryz.zeroValue95
 i0:=by kernel_rfl
 i2:=by kernel_rfl
 i3:=by kernel_rfl
 i4:=by kernel_rfl
 i5:=by kernel_rfl
 i9:=by kernel_rfl
 i20:=by kernel_rfl
 i21:=by kernel_rfl
 i37:=by kernel_rfl
 i46:=by kernel_rfl
 i51:=by kernel_rfl
 i53:=by kernel_rfl
 i75:=by kernel_rfl
 i76:=by kernel_rfl
 i80:=by kernel_rfl
 i85:=by kernel_rfl
 i127:=by kernel_rfl
 i143:=by kernel_rfl
 i145:=by kernel_rfl
 i167:=by kernel_rfl
 i168:=by kernel_rfl
 i171:=by kernel_rfl
 i173:=by kernel_rfl
 i175:=by kernel_rfl
 i210:=by kernel_rfl
 i212:=by kernel_rfl
 i232:=by kernel_rfl
 i233:=by kernel_rfl
 m15:=by kernel_rfl
 m16:=by kernel_rfl
 m17:=by kernel_rfl
 m18:=by kernel_rfl
 m19:=by kernel_rfl
 c0:=by kernel_rfl
 c2:=by kernel_rfl
 c3:=by kernel_rfl
 c4:=by kernel_rfl
 c5:=by kernel_rfl
 c9:=by kernel_rfl
 c20:=by kernel_rfl
 c21:=by kernel_rfl
 c37:=by kernel_rfl
 c46:=by kernel_rfl
 c51:=by kernel_rfl
 c53:=by kernel_rfl
 c75:=by kernel_rfl
 c76:=by kernel_rfl
 c80:=by kernel_rfl
 c85:=by kernel_rfl
 c127:=by kernel_rfl
 c143:=by kernel_rfl
 c145:=by kernel_rfl
 c167:=by kernel_rfl
 c168:=by kernel_rfl
 c171:=by kernel_rfl
 c173:=by kernel_rfl
 c175:=by kernel_rfl
 c210:=by kernel_rfl
 c212:=by kernel_rfl
 c213:=by kernel_rfl
 c232:=by kernel_rfl
 c233:=by kernel_rfl }
open Go.RowKit in
theorem Tryz.strconv_Atoi_ok (s:ByteArray) (hmax:s.size≤9223372036854775806) (v:Int) (h:Lib.atoiAll s.data.toList = .ok v) (w:World) :
  Calls Tryz.prog 219 #[.string s] w fun e w'=>e = .returned (.tuple #[.int .i64 v,.nilIface])∧(w'=w∨∃ t,w'=Lib.bytesWorld w 5 t):=Any.strconv_Atoi_ok Tryz.laysC172 s hmax v h w
open Go.RowKit in
theorem Tryz.strconv_Atoi_syntax (s:ByteArray) (hlim:s.size≤281474976710656) (h:Lib.atoiAll s.data.toList = .«syntax») (ev:Value) (w:World) (hv:w.cell? ⟨5,0,none⟩=some ev) (hev:ev = .nilIface∨∃ te pe,ev = .iface te pe) :
  Calls Tryz.prog 219 #[.string s] w fun e w'=>∃ N,e = .returned (.tuple #[.int .i64 (0),.iface 344 (.pointer (some ⟨N,0,none⟩))])∧w.heap.size≤N∧w'.heap[N]? = some (.cells #[.string ⟨#[65,116,111,105]⟩,.string s,ev] 359 (0,0))∧Below w.heap.size w w':=Any.strconv_Atoi_syntax Tryz.laysC172 s hlim h ev w hv hev
open Go.RowKit in
theorem Tryz.strconv_Atoi_range (s:ByteArray) (hlim:s.size≤281474976710656) (h:Lib.atoiAll s.data.toList = .range) (ev:Value) (w:World) (hv:w.cell? ⟨6,0,none⟩=some ev) (hev:ev = .nilIface∨∃ te pe,ev = .iface te pe) :
  Calls Tryz.prog 219 #[.string s] w fun e w'=>∃ N,e = .returned (.tuple #[.int .i64 (Lib.atoiSat s.data.toList),.iface 344 (.pointer (some ⟨N,0,none⟩))])∧w.heap.size≤N∧w'.heap[N]? = some (.cells #[.string ⟨#[65,116,111,105]⟩,.string s,ev] 359 (0,0))∧Below w.heap.size w w':=Any.strconv_Atoi_range Tryz.laysC172 s hlim h ev w hv hev
def Tryz.laysGw17_ren:Go.Shelf.Ren:=⟨fun|17=>175|15=>222|20=>249|n=>n,fun|9=>9|23=>255|4=>4|3=>3|0=>0|21=>21|n=>n,fun|n=>n⟩
theorem Tryz.laysGw17:Go.Proofs.LaysGw.n17 Tryz.prog Tryz.laysGw17_ren:={
 mixed:=by kernel_rfl
 f15:=Tryz.func222.trans (congrArg some (by kernel_rfl))
 f17:=Tryz.func175.trans (congrArg some (by kernel_rfl))
 f20:=Tryz.func249.trans (congrArg some (by kernel_rfl))
 t0:=Tryz.underlying0
 a0:=Tryz.isAgg0
 z0:=Tryz.sizeOf0
 v0:=Tryz.zeroValue0
 i0:=by kernel_rfl
 t3:=Tryz.underlying3
 a3:=Tryz.isAgg3
 z3:=Tryz.sizeOf3
 v3:=Tryz.zeroValue3
 i3:=by kernel_rfl
 t4:=Tryz.underlying4
 a4:=Tryz.isAgg4
 z4:=Tryz.sizeOf4
 v4:=Tryz.zeroValue4
 i4:=by kernel_rfl
 t9:=Tryz.underlying9
 a9:=Tryz.isAgg9
 z9:=Tryz.sizeOf9
 v9:=Tryz.zeroValue9
 i9:=by kernel_rfl
 t21:=Tryz.underlying21
 a21:=Tryz.isAgg21
 z21:=Tryz.sizeOf21
 v21:=Tryz.zeroValue21
 i21:=by kernel_rfl
 t23:=Tryz.underlying255
 a23:=Tryz.isAgg255
 z23:=Tryz.sizeOf255
 v23:=Tryz.zeroValue255
 i23:=by kernel_rfl }
def Tryz.lays146_ren:Go.Shelf.Ren:=⟨fun|146=>177|221=>223|268=>250|138=>251|143=>252|195=>281|197=>282|218=>283|219=>284|260=>295|217=>220|225=>296|224=>297|267=>298|266=>248|314=>302|n=>n,fun|9=>9|31=>96|3=>3|4=>4|0=>0|105=>348|21=>21|5=>5|46=>298|119=>366|139=>369|138=>368|146=>370|51=>296|n=>n,fun|1=>4|3=>7|4=>8|n=>n⟩
theorem Tryz.lays146:Go.Proofs.Lays.n146 Tryz.prog Tryz.lays146_ren:={
 mixed:=by kernel_rfl
 f138:=Tryz.func251.trans (congrArg some (by kernel_rfl))
 f143:=Tryz.func252.trans (congrArg some (by kernel_rfl))
 f146:=Tryz.func177.trans (congrArg some (by kernel_rfl))
 f195:=Tryz.func281.trans (congrArg some (by kernel_rfl))
 f197:=Tryz.func282.trans (congrArg some (by kernel_rfl))
 f217:=Tryz.func220.trans (congrArg some (by kernel_rfl))
 f218:=Tryz.func283.trans (congrArg some (by kernel_rfl))
 f219:=Tryz.func284.trans (congrArg some (by kernel_rfl))
 f221:=Tryz.func223.trans (congrArg some (by kernel_rfl))
 f224:=Tryz.func297.trans (congrArg some (by kernel_rfl))
 f225:=Tryz.func296.trans (congrArg some (by kernel_rfl))
 f260:=Tryz.func295.trans (congrArg some (by kernel_rfl))
 f266:=Tryz.func248.trans (congrArg some (by kernel_rfl))
 f267:=Tryz.func298.trans (congrArg some (by kernel_rfl))
 f268:=Tryz.func250.trans (congrArg some (by kernel_rfl))
 f314:=Tryz.func302.trans (congrArg some (by kernel_rfl))
 t0:=Tryz.underlying0
 a0:=Tryz.isAgg0
 z0:=Tryz.sizeOf0
 v0:=Tryz.zeroValue0
 t3:=Tryz.underlying3
 a3:=Tryz.isAgg3
 z3:=Tryz.sizeOf3
 v3:=Tryz.zeroValue3
 t4:=Tryz.underlying4
 a4:=Tryz.isAgg4
 z4:=Tryz.sizeOf4
 v4:=Tryz.zeroValue4
 t5:=Tryz.underlying5
 a5:=Tryz.isAgg5
 z5:=Tryz.sizeOf5
 v5:=Tryz.zeroValue5
 t9:=Tryz.underlying9
 a9:=Tryz.isAgg9
 z9:=Tryz.sizeOf9
 v9:=Tryz.zeroValue9
 t21:=Tryz.underlying21
 a21:=Tryz.isAgg21
 z21:=Tryz.sizeOf21
 v21:=Tryz.zeroValue21
 t31:=Tryz.underlying96
 a31:=Tryz.isAgg96
 z31:=Tryz.sizeOf96
 v31:=Tryz.zeroValue96
 t46:=Tryz.underlying298
 a46:=Tryz.isAgg298
 z46:=Tryz.sizeOf298
 v46:=Tryz.zeroValue298
 t51:=Tryz.underlying296
 a51:=Tryz.isAgg296
 z51:=Tryz.sizeOf296
 v51:=Tryz.zeroValue296
 t105:=Tryz.underlying348
 a105:=Tryz.isAgg348
 z105:=Tryz.sizeOf348
 v105:=Tryz.zeroValue348
 t119:=Tryz.underlying366
 a119:=Tryz.isAgg366
 z119:=Tryz.sizeOf366
 t138:=Tryz.underlying368
 a138:=Tryz.isAgg368
 z138:=Tryz.sizeOf368
 v138:=Tryz.zeroValue368
 t139:=Tryz.underlying369
 a139:=Tryz.isAgg369
 z139:=Tryz.sizeOf369
 v139:=Tryz.zeroValue369
 t146:=Tryz.underlying370
 a146:=Tryz.isAgg370
 z146:=Tryz.sizeOf370
 v146:=Tryz.zeroValue370
 g1:=by kernel_rfl
 g3:=by kernel_rfl
 g4:=by kernel_rfl }
open Go.RowKit Go.Lib in
theorem Tryz.strings_Split (s sep:ByteArray) (m:Int) (w:World) (hs:s.size < 4294967281) (hm:w.cell? ⟨4,0,none⟩=some (.int .i64 m)) (h1:1≤sep.size) :
  Calls Tryz.prog 177 #[.string s,.string sep] w fun e w' =>
   e = .returned (.slice (some ⟨w.heap.size,0,none⟩) (Lib.countB s sep+1) (Lib.countB s sep+1))∧w'=w.alloc (.cells ((Lib.splitB sep 0 (Lib.countB s sep) s).map Value.string).toArray 9):=Any.strings_Split Tryz.lays146 (by kernel_rfl) s sep m w hs hm h1
open Go.RowKit Go.Lib in
theorem Tryz.strings_ContainsFunc_grows (g:Nat) (lb:Array Value) (eg:∀ args w,(callFunc g args).run Tryz.prog w = .ok (.enter g args) w) (p:Nat→Bool) (s:ByteArray) (w:World) (hp:PredGrows Tryz.prog g lb p w) :
  Calls Tryz.prog 175 #[.string s,.func (.func g) #[] lb] w fun e w'=>e = .returned (.bool (decide (0≤Lib.idxFunc p true s)))∧Below w.heap.size w w':=Any.strings_ContainsFunc_grows Tryz.laysGw17 g lb eg p s w hp
end Go.Proofs
end
section
namespace Go.Proofs
open Go.Shelf
end Go.Proofs
end
section
namespace Go.Proofs
open Go.Shelf
end Go.Proofs
end
section
set_option maxRecDepth 100000
namespace Go.AL
open Go Go.Proofs
attribute [local irreducible] J
abbrev Bs:=List UInt8
def S (l:Bs):Value:=.string ⟨l.toArray⟩
def sv (l:Bs):AVal:=.v (S l)
def iv (n:Int):AVal:=.v (.int .i64 n)
def bv (b:Bool):AVal:=.v (.bool b)
theorem indexByte_ok (l:Bs) (c:UInt8):ACalls Tryz.prog 173 [sv l,.v (.int .u8 c.toNat)] [] (one (iv (Lib.indexByte l c)) []) :=
 lib_one (xs:=[S l,.int .u8 c.toNat]) (u:=.int .i64 (Lib.indexByte l c)) ⟨_,Tryz.func173,by kernel_rfl,by kernel_rfl⟩ (fun _=>rfl) fun w=>(Tryz.strings_IndexByte ⟨l.toArray⟩ c.toNat w).mono fun e w' ⟨h1,h2⟩=>by
  subst h2
  refine ⟨?_,RowKit.Below.refl _ _⟩
  rw [h1]
  simp
theorem cutSuffix_ok (l p:Bs) (hl:l.length≤9223372036854775807):ACalls Tryz.prog 120 [sv l,sv p] [] (one (.tup [sv (Lib.trimSuffix l p),bv (Lib.hasSuffix l p)]) []) :=
 lib_one (xs:=[S l,S p]) (u:=.tuple #[S (Lib.trimSuffix l p),.bool (Lib.hasSuffix l p)]) ⟨_,Tryz.func120,by kernel_rfl,by kernel_rfl⟩ (fun _=>⟨_,rfl,_,_,rfl,rfl,_,_,rfl,rfl,rfl⟩) fun w=>(Tryz.strings_CutSuffix ⟨l.toArray⟩ ⟨p.toArray⟩ w (by simpa [ByteArray.size] using hl)).mono fun e w' ⟨h1,h2⟩=>by
  subst h2
  exact ⟨h1,RowKit.Below.refl _ _⟩
def inn (n a b:Int):Bool:=decide (n≥a)&&decide (n≤b)
theorem in_ok (n a b:Int):ACalls Tryz.prog 131 [iv n,iv a,iv b] [] (one (bv (inn n a b)) []):=by
 refine jC Tryz.func131 Tryz.ntmps131 (fun w0 β0 ext hβ=>?_)
 unfold iv
 repeat (first|refine jS ?_|refine jD ?_|refine jB ?_)
 refine jg rfl rfl rfl rfl (fun h=>?_) (fun h=>?_)
 ·repeat (first|refine jS ?_|refine jD ?_|refine jB ?_)
  refine jr rfl rfl ?_ rfl
  unfold bv
  rw [inn,h];rfl
 ·repeat (first|refine jS ?_|refine jD ?_|refine jB ?_)
  refine jr rfl rfl ?_ rfl
  unfold bv
  rw [inn,h];rfl
def notN (r:Nat):Bool:=!inn r 97 122 && !inn r 48 57
theorem notN_ok (r:Nat) (hr:r≤1114111):ACalls Tryz.prog 176 [.v (.int .i32 r)] [] (one (bv (notN r)) []):=by
 have e:(IntKind.i64.wrap (r:Int))=r:=wrap_id (by omega) (by omega)
 have h1:ACalls Tryz.prog 131 [.v (.int .i64 (IntKind.i64.wrap (r:Int))),.v (.int .i64 97),.v (.int .i64 122)] [] (one (.v (.bool (inn r 97 122))) []):=by rw [e];exact in_ok r 97 122
 have h2:ACalls Tryz.prog 131 [.v (.int .i64 (IntKind.i64.wrap (r:Int))),.v (.int .i64 48),.v (.int .i64 57)] [] (one (.v (.bool (inn r 48 57))) []):=by rw [e];exact in_ok r 48 57
 unfold notN bv
 generalize inn r 97 122=b1 at *
 generalize inn r 48 57=b2 at *
 cases b1<;>cases b2
 all_goals refine jC Tryz.func176 Tryz.ntmps176 (fun w0 β0 ext hβ=>?_)
 all_goals (
  repeat (first|refine jS ?_|refine jD ?_|refine jB ?_|refine jV h1 ?_|refine jV h2 ?_)
 )
 all_goals exact jR
theorem contains_ok (l:Bs):ACalls Tryz.prog 175 [sv l,.fn (.func 176) [] []] [] (one (bv (decide (0≤Lib.idxFunc notN true ⟨l.toArray⟩))) []):=by
 refine ⟨⟨_,Tryz.func175,by kernel_rfl,by kernel_rfl⟩,fun ext w β us hI hx hr=>?_⟩
 obtain ⟨u1,us1,rfl,h1,u2,us2,rfl,⟨a1,a2,rfl,g1,g2⟩,h3⟩:=hr
 have h3:us2=[]:=h3
 have e1:a1 = #[]:=Array.toList_eq_nil_iff.1 g1
 have e2:a2 = #[]:=Array.toList_eq_nil_iff.1 g2
 have h1:u1=S l:=h1
 subst h3;subst e1;subst e2;subst h1
 refine (Tryz.strings_ContainsFunc_grows 176 #[] (fun args w=>callFunc_run ⟨_,Tryz.func176,by kernel_rfl,by kernel_rfl⟩ args w) notN ⟨l.toArray⟩ w ?_).mono fun e w' ⟨h1,h2⟩=>?_
 ·intro W x hx hb
  exact lib_back (xs:=[.int .i32 x]) (x:=.bool (notN x)) (notN_ok x hx) W
 ·subst h1
  exact ⟨_,_,β,⟨rfl,rfl⟩,rfl,below_inv hI h2,below_step h2 β fun b hb=>(hI.sep b hb).2⟩
end Go.AL
end
section
set_option maxRecDepth 100000
namespace Go.AL
open Go Go.Proofs
attribute [local irreducible] J
def nameP:Bs→Bool
 | []=>false
 | c::r=>inn (r.length+1:Nat) 1 12&&(inn c.toNat 97 122 && !decide (0≤Lib.idxFunc notN true ⟨(c::r).toArray⟩))
theorem isName_ok (l:Bs):ACalls Tryz.prog 121 [sv l] [] (one (bv (nameP l)) []):=by
 cases l with
 | nil =>
  have h1:=in_ok 0 1 12
  have e:inn 0 1 12=false:=by decide
  rw [e] at h1
  unfold iv bv at h1
  unfold sv bv S
  refine jC Tryz.func121 Tryz.ntmps121 (fun w0 β0 ext hβ=>?_)
  repeat (first|refine jS ?_|refine jD ?_|refine jB ?_|refine jV h1 ?_)
  exact jR
 | cons c r =>
  have h1:=in_ok (r.length+1:Nat) 1 12
  have h2:=in_ok (IntKind.i64.wrap (c.toNat:Int)) 97 122
  have hc:(c.toNat:Int)≤255:=by have:=c.toNat_lt;omega
  rw [wrap_id (by omega) (by omega)] at h2
  have h2:ACalls Tryz.prog 131 [.v (.int .i64 (IntKind.i64.wrap (c.toNat:Int))),.v (.int .i64 97),.v (.int .i64 122)] [] (one (.v (.bool (inn c.toNat 97 122))) []):=by rw [wrap_id (by omega) (by omega)];exact h2
  have h3:=contains_ok (c::r)
  show ACalls _ _ _ _ (one (bv (inn (r.length+1:Nat) 1 12&&(inn c.toNat 97 122 && !decide (0≤Lib.idxFunc notN true ⟨(c::r).toArray⟩)))) [])
  generalize inn (r.length+1:Nat) 1 12=b1 at *
  generalize inn c.toNat 97 122=b2 at *
  generalize decide (0≤Lib.idxFunc notN true ⟨(c::r).toArray⟩)=b3 at *
  unfold iv bv at h1
  unfold sv bv S at h3
  unfold sv bv S
  cases b1<;>cases b2
  all_goals refine jC Tryz.func121 Tryz.ntmps121 (fun w0 β0 ext hβ=>?_)
  all_goals (
   repeat (first|refine jS ?_|refine jD ?_|refine jB ?_|refine jV h1 ?_|refine jV h2 ?_|refine jV h3 ?_|refine jo rfl rfl (index_str rfl rfl rfl rfl (by decide) (c:=c) rfl) rfl rfl ?_)
  )
  all_goals exact jR
def lnHead (s:Bs):Bs:=if 0≤Lib.indexByte s 10 then s.take ((Lib.indexByte s 10).toNat+1) else s
def lnTail (s:Bs):Bs:=if 0≤Lib.indexByte s 10 then s.drop ((Lib.indexByte s 10).toNat+1) else []
def chunks:Bs→List Bs
 | []=>[]
 | c::r=>if c=10 then [10]::chunks r else match chunks r with
  | []=>[[c]]
  | h::t=>(c::h)::t
theorem indexByte_lt (s:Bs) (c:UInt8):Lib.indexByte s c < s.length:=by
 induction s with
 | nil=>simp [Lib.indexByte]
 | cons b l ih =>
  unfold Lib.indexByte
  simp only [List.length_cons]
  split
  ·omega
  ·split<;>omega
theorem chunks_nil:∀ s,chunks s=[]→s=[]
 | [],_=>rfl
 | c::r,h=>by
  unfold chunks at h
  split at h
  ·cases h
  ·split at h<;>cases h
theorem chunks_cons:∀ (s:Bs),s≠[]→chunks s=lnHead s::chunks (lnTail s)
 | [],h=>absurd rfl h
 | c::r,_=>by
  rw [chunks]
  unfold lnHead lnTail
  by_cases hc:c=10
  ·subst hc
   have:Lib.indexByte (10::r) 10=0:=by simp [Lib.indexByte]
   simp [this]
  ·have hb:(c == (10:UInt8))=false:=by simpa using hc
   rw [if_neg hc]
   have hge:=Lib.indexByte_ge r 10
   by_cases hr:r=[]
   ·subst hr
    have:Lib.indexByte [c] 10 = -1:=by simp [Lib.indexByte,hb]
    simp [this,chunks]
   ·rw [chunks_cons r hr]
    unfold lnHead lnTail
    by_cases h0:0≤Lib.indexByte r 10
    ·have h1:(Lib.indexByte r 10 == -1)=false:=by simp;omega
     have h2:Lib.indexByte (c::r) 10=Lib.indexByte r 10+1:=by simp only [Lib.indexByte,hb,h1];simp
     rw [h2,if_pos h0,if_pos h0,if_pos (by omega),if_pos (by omega)]
     have:(Lib.indexByte r 10+1).toNat=(Lib.indexByte r 10).toNat+1:=by omega
     rw [this];simp
    ·have h1:Lib.indexByte r 10 = -1:=by omega
     have h2:Lib.indexByte (c::r) 10 = -1:=by simp [Lib.indexByte,hb,h1]
     rw [h2,h1];simp [chunks]
def restAt (s:Bs):Nat→Bs
 | 0=>s
 | k+1=>lnTail (restAt s k)
theorem chunks_drop (s:Bs):∀ k,chunks (restAt s k)=(chunks s).drop k
 | 0=>rfl
 | k+1=>by
  have ih:=chunks_drop s k
  by_cases h:restAt s k=[]
  ·have:lnTail (restAt s k)=[]:=by rw [h];rfl
   show chunks (lnTail (restAt s k))=_
   rw [h] at ih
   rw [this]
   have h2:(chunks s).drop k=[]:=ih.symm
   rw [List.drop_eq_nil_iff] at h2
   exact (List.drop_eq_nil_iff.2 (by omega)).symm
  ·rw [chunks_cons _ h] at ih
   show chunks (lnTail (restAt s k))=_
   rw [←List.drop_drop,←ih]
   rfl
theorem rest_lt {s:Bs} {k:Nat} (h:k < (chunks s).length):restAt s k≠[]∧(chunks s)[k]=lnHead (restAt s k):=by
 have h1:=chunks_drop s k
 have hne:restAt s k≠[]:=fun e=>by
  rw [e] at h1
  have:=List.drop_eq_nil_iff.1 h1.symm
  omega
 refine ⟨hne,?_⟩
 rw [chunks_cons _ hne] at h1
 have:=congrArg (fun l=>l[0]?) h1
 simp only [List.getElem?_cons_zero,List.getElem?_drop,Nat.add_zero] at this
 rw [List.getElem?_eq_getElem h] at this
 simpa using this.symm
theorem rest_end (s:Bs):restAt s (chunks s).length=[]:=chunks_nil _ (by rw [chunks_drop];simp)
theorem rest_len (s:Bs):∀ k,(restAt s k).length≤s.length
 | 0=>Nat.le_refl _
 | k+1=>by
  have:=rest_len s k
  show (lnTail (restAt s k)).length≤_
  unfold lnTail
  split
  ·rw [List.length_drop];omega
  ·simp
theorem lines_ok (s:Bs):ACalls Tryz.prog 119 [sv s] [] (one (.fn (.func 172) [] [.ptr 0 0]) [.box 9 [sv s]]):=by
 refine jC Tryz.func119 Tryz.ntmps119 (fun w0 β0 ext hβ=>?_)
 repeat (first|refine jS ?_|refine jD ?_|refine jB ?_)
 exact jret [0] true rfl rfl rfl ⟨rfl,rfl⟩
end Go.AL
end
section
set_option maxRecDepth 100000
namespace Go.AL
open Go Go.Proofs
attribute [local irreducible] J
theorem scut_take (s:Bs) (n:Nat):AVal.v (.string ((⟨s.toArray⟩:ByteArray).extract 0 n))=sv (s.take n):=by
 unfold sv S
 congr 2
 apply ByteArray.ext
 apply Array.ext'
 simp [ByteArray.data_extract]
theorem scut_drop (s:Bs) (n:Nat):AVal.v (.string ((⟨s.toArray⟩:ByteArray).extract n (⟨s.toArray⟩:ByteArray).size))=sv (s.drop n):=by
 unfold sv S
 congr 2
 apply ByteArray.ext
 apply Array.ext'
 simp [ByteArray.data_extract,ByteArray.size]
 exact List.take_of_length_le (by simp)
section
variable {P:Program} [T:TyTab P] {F:Fr} {H:List AObj} {dst:Option Tmp} {t:TypeId} {x o:Operand} {type:TypeId} {pos:String} {after:Array Edge} {guard:Option (Nat × Bool)} {s:Bs} {n:Int} {r':TyRow}
theorem cutH (m:Nat) (hx:ev F x=some (sv s)) (ho:ev F o=some (.v (.int .i64 n))) (ht:tfind T.tab t=some r') (hd:r'.d = .string) (hn:n=m) (hm:m≤s.length) :
  DSem P .p ⟨dst,.slice t x none (some o) none,type,pos,after,guard⟩ F H (sv (s.take m)) H:=by
 have:=cut_str (P:=P) (dst:=dst) (type:=type) (pos:=pos) (after:=after) (guard:=guard) (H:=H) (lo:=none) (hi:=some o) (l:=0) (h:=n) hx rfl ⟨.i64,ho⟩ ht hd (by omega) (by omega) (by simp [ByteArray.size];omega)
 rw [←scut_take,hn] at *
 simpa using this
theorem cutL (m:Nat) (hx:ev F x=some (sv s)) (ho:ev F o=some (.v (.int .i64 n))) (ht:tfind T.tab t=some r') (hd:r'.d = .string) (hn:n=m) (hm:m≤s.length) :
  DSem P .p ⟨dst,.slice t x (some o) none none,type,pos,after,guard⟩ F H (sv (s.drop m)) H:=by
 have:=cut_str (P:=P) (dst:=dst) (type:=type) (pos:=pos) (after:=after) (guard:=guard) (H:=H) (lo:=some o) (hi:=none) (l:=n) (h:=(s.length:Int)) hx ⟨.i64,ho⟩ (by simp [ByteArray.size]) ht hd (by omega) (by omega) (by simp [ByteArray.size])
 rw [←scut_drop,hn] at *
 simpa [ByteArray.size] using this
theorem store_box {a x:Operand} {j off:Nat} {bt:TypeId} {cs cs':List AVal} {v:AVal}
  (ha:ev F a=some (.ptr j off)) (hx:ev F x=some v) (hH:H[j]? = some (.box bt cs)) (ht:tfind T.tab t=some r') (hl:v.cells.length=r'.size) (hf:v.flat=true) (hin:off+r'.size≤cs.length) (hs:spliceA cs off v.cells=cs') :
  DSem P .m ⟨dst,.store t a x,type,pos,after,guard⟩ F H (.tup []) (H.set j (.box bt cs')):=by
 subst hs
 exact store_sem ha hx hH ht hl hf hin
end
theorem lines1_ok (l jb:Nat) (s:Bs) (hs:s.length≤1000000) (A:Nat→List AObj) (ok:Nat→Prop) (h0:ok 0) (Z:List AObj→Prop) (hA:∀ k,k≤(chunks s).length→(A k)[jb]? = some (.box 9 [sv (restAt s k)]))
  (hY:∀ (k:Nat) (hk:k < (chunks s).length),ok k→AYield Tryz.prog l [sv (chunks s)[k]] ((A k).set jb (.box 9 [sv (restAt s (k+1))])) (fun r H'=>(r = .ret (bv true)∧H'=A (k+1)∧ok (k+1))∨(r = .ret (bv false)∧Z H'))) :
  ACalls Tryz.prog 172 [.fn (.yield l) [] [],.ptr jb 0] (A 0) (fun r H'=>r = .ret (.tup [])∧((H'=A (chunks s).length∧ok (chunks s).length)∨Z H')):=by
 refine jcalls0 Tryz.func172 rfl (by kernel_rfl) Tryz.ntmps172 rfl rfl (fun w0 β0 ext hβ=>?_)
 refine jS ?_
 refine jloopI (fun k=>k≤(chunks s).length∧ok k) [0,1] (fun _=>[.fn (.yield l) [] [],.ptr jb 0]) A (fun k=>(chunks s).length-k) 0 ⟨Nat.zero_le _,h0⟩ rfl rfl (fun k hk=>?_)
 obtain ⟨hk,hok⟩:=hk
 have hb:=hA k hk
 have hlen:=rest_len s k
 by_cases hend:k=(chunks s).length
 ·have he:restAt s k=[]:=by rw [hend];exact rest_end s
  rw [he] at hb
  repeat (first|refine jS ?_|refine jD ?_|refine jB ?_|refine jo rfl rfl (load_dsem (r:=ty9) rfl hb rfl rfl) rfl rfl ?_)
  refine jend0 rfl ⟨rfl,.inl ⟨by rw [hend],by rw [←hend];exact hok⟩⟩
 ·have hk':k < (chunks s).length:=by omega
  obtain ⟨hne,hck⟩:=rest_lt hk'
  have hy:=hY k hk' hok
  rw [hck] at hy
  have hidx:=indexByte_ok (restAt s k) 10
  have hge:=Lib.indexByte_ge (restAt s k) 10
  have hlt:=indexByte_lt (restAt s k) 10
  have hnext:restAt s (k+1)=lnTail (restAt s k):=rfl
  rw [hnext] at hy
  unfold lnHead lnTail at hy
  generalize restAt s k=r at *
  generalize Lib.indexByte r 10=n at *
  have h0:0 < r.length:=by cases r with|nil=>exact absurd rfl hne|cons=>simp
  unfold iv sv at hidx
  repeat (first|refine jS ?_|refine jD ?_|refine jB ?_|refine jo rfl rfl (load_dsem (r:=ty9) rfl hb rfl rfl) rfl rfl ?_)
  refine jc rfl rfl rfl (fun h=>?_) (fun h=>(by exfalso;have h':=of_decide_eq_false h;rw [show ByteArray.size ⟨r.toArray⟩=r.length from rfl] at h';omega))
  repeat (first|refine jS ?_|refine jD ?_|refine jB ?_|refine jo rfl rfl (load_dsem (r:=ty9) rfl hb rfl rfl) rfl rfl ?_|refine jV hidx ?_)
  refine jc rfl rfl rfl (fun h1=>?_) (fun h1=>?_)
  ·have h1:=of_decide_eq_true h1
   rw [if_pos h1,if_pos h1] at hy
   have hw:IntKind.i64.wrap (n+1)=((n.toNat+1:Nat):Int):=by rw [wrap_id (by omega) (by omega)];omega
   repeat (first|refine jS ?_|refine jD ?_|refine jB ?_|refine jo rfl rfl (load_dsem (r:=ty9) rfl hb rfl rfl) rfl rfl ?_|refine jo rfl rfl (cutH (n.toNat+1) rfl rfl rfl rfl hw (by omega)) rfl rfl ?_|refine jo rfl rfl (cutL (n.toNat+1) rfl rfl rfl rfl hw (by omega)) rfl rfl ?_|refine jo rfl rfl (store_box (r':=ty9) rfl rfl hb rfl rfl rfl (Nat.le_refl 1) rfl) rfl rfl ?_)
   refine jy hy rfl rfl rfl rfl (fun r' H' hres=>?_)
   rcases hres with ⟨rfl,rfl,hok2⟩|⟨rfl,hz⟩
   ·refine ⟨_,rfl,?_⟩
    repeat (first|refine jS ?_|refine jD ?_|refine jB ?_)
    exact jnextI (k+1) ⟨by omega,hok2⟩ rfl rfl (by omega)
   ·refine ⟨_,rfl,?_⟩
    repeat (first|refine jS ?_|refine jD ?_|refine jB ?_)
    exact jret0 rfl ⟨rfl,.inr hz⟩
  ·have h1:=of_decide_eq_false h1
   rw [if_neg h1,if_neg h1] at hy
   repeat (first|refine jS ?_|refine jD ?_|refine jB ?_|refine jo rfl rfl (load_dsem (r:=ty9) rfl hb rfl rfl) rfl rfl ?_|refine jo rfl rfl (store_box (r':=ty9) rfl rfl hb rfl rfl rfl (Nat.le_refl 1) rfl) rfl rfl ?_)
   refine jy hy rfl rfl rfl rfl (fun r' H' hres=>?_)
   rcases hres with ⟨rfl,rfl,hok2⟩|⟨rfl,hz⟩
   ·refine ⟨_,rfl,?_⟩
    repeat (first|refine jS ?_|refine jD ?_|refine jB ?_)
    exact jnextI (k+1) ⟨by omega,hok2⟩ rfl rfl (by omega)
   ·refine ⟨_,rfl,?_⟩
    repeat (first|refine jS ?_|refine jD ?_|refine jB ?_)
    exact jret0 rfl ⟨rfl,.inr hz⟩
end Go.AL
end
section
set_option maxRecDepth 100000
namespace Go.AL
open Go Go.Proofs
attribute [local irreducible] J
abbrev Mp:=List (Bs × Int)
def encM (m:Mp):List (Value × Value):=m.map fun p=>(S p.1,.int .i64 p.2)
theorem S_inj {a b:Bs} (h:S a=S b):a=b:=by
 unfold S at h
 injection h with h
 injection h with h
 injection h with h
theorem encM_find (m:Mp) (a:Bs):MFind (vals (encM m)) (S a) ((m.lookup a).map iv):=by
 induction m with
 | nil=>rfl
 | cons p m ih =>
  by_cases h:p.1=a
  ·exact .inl ⟨by show S p.1=S a;rw [h],by obtain ⟨q,n⟩:=p;subst h;simp [List.lookup,iv]⟩
  ·refine .inr ⟨fun e=>h (S_inj e),?_⟩
   have:List.lookup a (p::m)=List.lookup a m:=by
    obtain ⟨q,n⟩:=p
    simp only [List.lookup]
    have:(a == q)=false:=by simp;exact fun e=>h e.symm
    rw [this]
   rw [this]
   exact ih
theorem encM_put (m:Mp) (a:Bs) (n:Int) (h:m.lookup a=none):MPut (vals (encM m)) (S a) (iv n) (vals (encM (m++[(a,n)]))):=by
 induction m with
 | nil=>rfl
 | cons p m ih =>
  obtain ⟨q,n'⟩:=p
  simp only [List.lookup] at h
  split at h
  ·cases h
  ·rename_i hq
   refine .inr ⟨fun e=>by rw [show q=a from S_inj e] at hq;simp at hq,_,rfl,ih h⟩
theorem encM_keys (m:Mp):MKeys .string (vals (encM m)):=by
 intro p hp
 obtain ⟨q,hq,rfl⟩:=List.mem_map.1 hp
 obtain ⟨q',_,rfl⟩:=List.mem_map.1 hq
 trivial
def bare (c:Bs):Bs:=Lib.trimSuffix c [10]
def ended (c:Bs):Bool:=Lib.hasSuffix c [10]
def isLab (s:Bs):Bool:=Lib.hasSuffix s [58]
def labName (s:Bs):Bs:=Lib.trimSuffix s [58]
def stepL (st:Mp × Int) (c:Bs):Mp × Int :=
 (cond (ended c&&isLab (bare c) && !(st.1.lookup (labName (bare c))).isSome) (st.1++[(labName (bare c),st.2)]) st.1,cond (isLab (bare c)) st.2 (st.2+1))
def labSt (cs:List Bs) (k:Nat):Mp × Int:=(cs.take k).foldl stepL ([],0)
theorem labSt_succ {cs:List Bs} {k:Nat} (h:k < cs.length):labSt cs (k+1)=stepL (labSt cs k) cs[k]:=by
 unfold labSt
 rw [List.take_succ_eq_append_getElem h,List.foldl_append];rfl
theorem labSt_le (cs:List Bs):∀ k,0≤(labSt cs k).2∧(labSt cs k).2≤k
 | 0=>⟨Int.le_refl _,Int.le_refl _⟩
 | k+1=>by
  have ih:=labSt_le cs k
  by_cases h:k < cs.length
  ·rw [labSt_succ h]
   unfold stepL
   cases isLab (bare cs[k])<;>simp<;>omega
  ·have:labSt cs (k+1)=labSt cs k:=by unfold labSt;rw [List.take_of_length_le (by omega),List.take_of_length_le (by omega)]
   rw [this];omega
theorem chunks_len:∀ s:Bs,(chunks s).length≤s.length
 | []=>Nat.le_refl _
 | c::r=>by
  have ih:=chunks_len r
  rw [chunks]
  split
  ·simp;exact ih
  ·split
   ·simp
   ·rename_i h t e;rw [e] at ih;simp at ih ⊢;omega
theorem chunk_len (s:Bs) {k:Nat} (h:k < (chunks s).length):(chunks s)[k].length≤s.length:=by
 rw [(rest_lt h).2]
 have:=rest_len s k
 unfold lnHead
 split
 ·rw [List.length_take];omega
 ·exact this
theorem bare_len (c:Bs):(bare c).length≤c.length:=by
 unfold bare Lib.trimSuffix
 split
 ·rw [List.length_take];omega
 ·exact Nat.le_refl _
def labels (s:Bs):Mp:=(labSt (chunks s) (chunks s).length).1
theorem labels_ok (s:Bs) (hs:s.length≤1000000):ACalls Tryz.prog 117 [sv s] [] (one (.mp 0) [.vmap (encM (labels s))]):=by
 have hl:=lines_ok s
 have hcl:=chunks_len s
 refine jC Tryz.func117 Tryz.ntmps117 (fun w0 β0 ext hβ=>?_)
 repeat (first|refine jS ?_|refine jD ?_|refine jB ?_|refine jo rfl rfl (map_newV) rfl rfl ?_)
 refine jBb [] hl ?_
 repeat (first|refine jS ?_|refine jD ?_|refine jB ?_)
 refine jrange [3,4] rfl rfl rfl (fun l c c1 c2 c3 c4 c5=>?_)
 have hc:=lines1_ok l 3 s hs (fun k=>[.vmap (encM (labSt (chunks s) k).1),.box 186 [.mp 0],.box 3 [iv (labSt (chunks s) k).2],.box 9 [sv (restAt s k)],.loop l .ready none c [.ptr 1 0,.ptr 2 0]])
  (fun _=>True) trivial (fun _=>False) (fun k _=>rfl) (fun k hk _=>?_)
 ·refine ⟨_,hc,fun r H' hres=>?_⟩
  obtain ⟨rfl,⟨rfl,_⟩|h⟩:=hres
  ·refine ⟨_,.ready,none,_,.normal,rfl,rfl,by decide,rfl,?_⟩
   repeat (first|refine jS ?_|refine jD ?_|refine jB ?_)
   exact jret [0] true rfl rfl rfl ⟨rfl,rfl⟩
  ·exact h.elim
 ·refine jround (ts:=[3,4]) c1 c2 c3 c4 c5 (j:=4) rfl rfl rfl (fun w1 β1 ext1 hβ1=>?_)
  have hle:=labSt_le (chunks s) k
  have hcu:=cutSuffix_ok ((chunks s)[k]) [10] (by have:=chunk_len s hk;omega)
  have hcu2:=cutSuffix_ok (bare (chunks s)[k]) [58] (by have:=chunk_len s hk;have:=bare_len (chunks s)[k];omega)
  have hst:=labSt_succ hk
  unfold stepL at hst
  have hf:=encM_find (labSt (chunks s) k).1 (labName (bare (chunks s)[k]))
  have hks:=encM_keys (labSt (chunks s) k).1
  have hpu:=encM_put (labSt (chunks s) k).1 (labName (bare (chunks s)[k])) (labSt (chunks s) k).2
  unfold ended isLab labName at hst
  unfold labName at hf hpu
  rw [show Lib.trimSuffix (chunks s)[k] [10]=bare (chunks s)[k] from rfl] at hcu
  rw [hst]
  generalize labSt (chunks s) k=st at *
  obtain ⟨m,n⟩:=st
  generalize restAt s (k+1)=rr
  generalize Lib.hasSuffix (chunks s)[k] [10]=e at *
  generalize Lib.hasSuffix (bare (chunks s)[k]) [58]=il at *
  generalize Lib.trimSuffix (bare (chunks s)[k]) [58]=nm at *
  generalize bare (chunks s)[k]=b at *
  generalize (chunks s)[k]=ch at *
  simp only at hle hf hks hpu
  unfold sv bv at hcu hcu2
  have hadd:IntKind.i64.wrap (n+1)=n+1:=wrap_id (by omega) (by omega)
  cases hlk:m.lookup nm with
  | none =>
   rw [hlk] at hf
   have hpu:=hpu hlk
   simp only [Option.map_none] at hf
   cases e<;>cases il
   all_goals (
    repeat (first|refine jS ?_|refine jD ?_|refine jB ?_)
   )
   all_goals refine jlp ⟨rfl,?_⟩
   all_goals (
    repeat (first|refine jS ?_|refine jD ?_|refine jB ?_|refine jV hcu ?_|refine jV hcu2 ?_|refine jo rfl rfl (map_get rfl rfl rfl rfl rfl rfl rfl rfl rfl trivial hks hf rfl) rfl rfl ?_|refine jo rfl rfl (map_put (mo':=.vmap (encM (m++[(nm,n)]))) (.inl rfl) rfl rfl rfl rfl rfl rfl rfl rfl rfl trivial hks hpu rfl) rfl rfl ?_)
   )
   all_goals refine jrend none rfl rfl rfl rfl (.inl ⟨rfl,?_,trivial⟩)
   all_goals simp only [hadd,hlk]
   all_goals rfl
  | some q =>
   rw [hlk] at hf
   simp only [Option.map_some] at hf
   cases e<;>cases il
   all_goals (
    repeat (first|refine jS ?_|refine jD ?_|refine jB ?_)
   )
   all_goals refine jlp ⟨rfl,?_⟩
   all_goals (
    repeat (first|refine jS ?_|refine jD ?_|refine jB ?_|refine jV hcu ?_|refine jV hcu2 ?_|refine jo rfl rfl (map_get rfl rfl rfl rfl rfl rfl rfl rfl rfl trivial hks hf rfl) rfl rfl ?_)
   )
   all_goals refine jrend none rfl rfl rfl rfl (.inl ⟨rfl,?_,trivial⟩)
   all_goals simp only [hadd,hlk]
   all_goals rfl
end Go.AL
end
section
set_option maxRecDepth 100000
namespace Go.AL
open Go Go.Proofs
attribute [local irreducible] J
structure Gl where
 t1:TypeId
 t2:TypeId
 t3:TypeId
 f1:Nat × Nat
 f2:Nat × Nat
 f3:Nat × Nat
 e2:TypeId
 e3:TypeId
 p2:Value
 p3:Value
 t0:TypeId
 f0:Nat × Nat
 m:Int
def powV:Array Value:=(Lib.pow10Tab.map fun z=>Value.int .u64 z).toArray
def Gl.a (g:Gl):AObj:=.fix 1 (.cells powV g.t1 g.f1)
def Gl.b (g:Gl):AObj:=.fix 5 (.cells #[.iface g.e2 g.p2] g.t2 g.f2)
def Gl.c (g:Gl):AObj:=.fix 6 (.cells #[.iface g.e3 g.p3] g.t3 g.f3)
def Gl.d (g:Gl):AObj:=.fix 4 (.cells #[.int .i64 g.m] g.t0 g.f0)
def gls (g:Gl):List AObj:=[g.a,g.b,g.c,g.d]
theorem tab_named:Tryz.prog.globalNamed "internal/strconv.uint64pow10" = some 1:=by kernel_rfl
theorem itoa_ok (g:Gl) (n:Int) (h0 : -9223372036854775808≤n) (h1:n≤9223372036854775807):ACalls Tryz.prog 40 [iv n] (gls g) (one (sv (Lib.itoa n)) (gls g)) :=
 lib_calls (xs:=[.int .i64 n]) ⟨_,Tryz.func40,by kernel_rfl,by kernel_rfl⟩ fun w hw=>by
  have h:=hw 1 _ (show AObj.fix 1 (.cells powV g.t1 g.f1)∈gls g from List.mem_cons_self ..)
  refine (Tryz.strconv_Itoa n h0 h1 w ?_).mono fun e w' hq=>?_
  ·unfold Lib.TabIs World.var?
   rw [tab_named]
   show (match w.heap[1]? with|some (.cells cs _ _)=>some cs|_=>none)=_
   rw [h];rfl
  ·obtain ⟨h2,k,os,h3⟩:=hq
   subst h3
   refine ⟨_,sv (Lib.itoa n),h2,fun _=>rfl,⟨rfl,rfl⟩,⟨rfl,rfl,rfl,?_,fun b hb=>?_⟩⟩
   ·show w.heap.size≤(w.heap++os).size
    rw [Array.size_append];omega
   ·show (w.heap++os)[b]? = _
    rw [Array.getElem?_append_left hb]
def atoiQ (g:Gl) (s:Bs):Eff:=fun r H'=>H'=gls g∧match Lib.atoiAll s with
 | .ok v=>r = .ret (.tup [iv v,.v .nilIface])
 | .syntax=>∃ N,r = .ret (.tup [iv 0,.v (.iface 344 (.pointer (some ⟨N,0,none⟩)))])
 | .range=>∃ N,r = .ret (.tup [iv (Lib.atoiSat s),.v (.iface 344 (.pointer (some ⟨N,0,none⟩)))])
theorem below_bytes {w w':World} (h:w'=w∨∃ t,w'=Lib.bytesWorld w 5 t):RowKit.Below w.heap.size w w':=by
 rcases h with rfl|⟨t,rfl⟩
 ·exact RowKit.Below.refl _ _
 ·exact Joins.below_bytesWorld _ w 5 t (Nat.le_refl _)
theorem atoi_ok (g:Gl) (s:Bs) (hs:s.length≤1000000):ACalls Tryz.prog 219 [sv s] (gls g) (atoiQ g s) :=
 lib_calls (xs:=[S s]) ⟨_,Tryz.func219,by kernel_rfl,by kernel_rfl⟩ fun w hw=>by
  have hsz:ByteArray.size ⟨s.toArray⟩≤1000000:=by simpa [ByteArray.size] using hs
  have h2:=hw 5 _ (show AObj.fix 5 (.cells #[.iface g.e2 g.p2] g.t2 g.f2)∈gls g from List.mem_cons_of_mem _ (List.mem_cons_self ..))
  have h3:=hw 6 _ (show AObj.fix 6 (.cells #[.iface g.e3 g.p3] g.t3 g.f3)∈gls g from List.mem_cons_of_mem _ (List.mem_cons_of_mem _ (List.mem_cons_self ..)))
  have c2:w.cell? ⟨5,0,none⟩=some (.iface g.e2 g.p2):=by simp [World.cell?,h2]
  have c3:w.cell? ⟨6,0,none⟩=some (.iface g.e3 g.p3):=by simp [World.cell?,h3]
  cases ha:Lib.atoiAll s with
  | ok v =>
   refine (Tryz.strconv_Atoi_ok ⟨s.toArray⟩ (by omega) v ha w).mono fun e w' ⟨q1,q2⟩=>?_
   refine ⟨_,.tup [iv v,.v .nilIface],q1,fun _=>⟨_,rfl,_,_,rfl,rfl,_,_,rfl,rfl,rfl⟩,⟨rfl,?_⟩,below_bytes q2⟩
   rw [ha]
  | «syntax» =>
   refine (Tryz.strconv_Atoi_syntax ⟨s.toArray⟩ (by omega) ha _ w c2 (.inr ⟨_,_,rfl⟩)).mono fun e w' ⟨N,q1,_,_,q2⟩=>?_
   refine ⟨_,.tup [iv 0,.v (.iface 344 (.pointer (some ⟨N,0,none⟩)))],q1,fun _=>⟨_,rfl,_,_,rfl,rfl,_,_,rfl,rfl,rfl⟩,⟨rfl,?_⟩,q2⟩
   rw [ha]
   exact ⟨N,rfl⟩
  | range =>
   refine (Tryz.strconv_Atoi_range ⟨s.toArray⟩ (by omega) ha _ w c3 (.inr ⟨_,_,rfl⟩)).mono fun e w' ⟨N,q1,_,_,q2⟩=>?_
   refine ⟨_,.tup [iv (Lib.atoiSat s),.v (.iface 344 (.pointer (some ⟨N,0,none⟩)))],q1,fun _=>⟨_,rfl,_,_,rfl,rfl,_,_,rfl,rfl,rfl⟩,⟨rfl,?_⟩,q2⟩
   rw [ha]
   exact ⟨N,rfl⟩
def numV (s:Bs):Int:=match Lib.atoiAll s with | .ok v=>v | .syntax=>0 | .range=>Lib.atoiSat s
def numOk (s:Bs):Bool:=match Lib.atoiAll s with | .ok v=>decide (Lib.itoa v=s)&&inn v (-1000000000) 1000000000|_=>false
theorem atoi_range {s:Bs} {v:Int} (h:Lib.atoiAll s = .ok v) : -9223372036854775808≤v∧v≤9223372036854775807:=by
 unfold Lib.atoiAll at h
 split at h
 ·cases h
 ·split at h
  ·cases h
  ·cases h
  ·rename_i u hu
   simp only at h
   split at h
   ·cases h
   ·split at h
    ·cases h
    ·injection h with h
     split at h<;>omega
theorem str_eq (a b:Bs):((⟨a.toArray⟩:ByteArray).toList == (⟨b.toArray⟩:ByteArray).toList)=decide (a=b):=by
 have h:∀ l:Bs,(⟨l.toArray⟩:ByteArray).toList=l:=fun l=>by simp
 rw [h,h]
 by_cases e:a=b<;>simp [e]
theorem number_ok (g:Gl) (s:Bs) (hs:s.length≤1000000):ACalls Tryz.prog 170 [sv s] (gls g) (one (.tup [iv (numV s),bv (numOk s)]) (gls g)):=by
 have ha:=atoi_ok g s hs
 unfold atoiQ at ha
 unfold numV numOk
 cases hat:Lib.atoiAll s with
 | ok v =>
  rw [hat] at ha
  obtain ⟨r1,r2⟩:=atoi_range hat
  have hi:=itoa_ok g v r1 r2
  have hin:=in_ok v (-1000000000) 1000000000
  simp only
  generalize inn v (-1000000000) 1000000000=b1 at *
  unfold iv bv at hin
  unfold sv iv at hi
  have key:=str_eq (Lib.itoa v) s
  refine jC Tryz.func170 Tryz.ntmps170 (fun w0 β0 ext hβ=>?_)
  repeat (first|refine jS ?_|refine jD ?_|refine jB ?_)
  refine jcq ha rfl rfl rfl rfl (fun r H' hres=>?_)
  obtain ⟨rfl,rfl⟩:=hres
  refine ⟨_,rfl,?_⟩
  repeat (first|refine jS ?_|refine jD ?_|refine jB ?_|refine jo rfl rfl (eq_nilI rfl rfl rfl) rfl rfl ?_)
  refine jBb [0,1,2,3] hi ?_
  repeat (first|refine jS ?_|refine jD ?_|refine jB ?_)
  rw [key]
  generalize decide (Lib.itoa v=s)=b2 at *
  cases b2
  ·repeat (first|refine jS ?_|refine jD ?_|refine jB ?_)
   exact jR
  ·repeat (first|refine jS ?_|refine jD ?_|refine jB ?_|refine jV hin ?_)
   exact jR
 | «syntax» =>
  rw [hat] at ha
  refine jC Tryz.func170 Tryz.ntmps170 (fun w0 β0 ext hβ=>?_)
  repeat (first|refine jS ?_|refine jD ?_|refine jB ?_)
  refine jcq ha rfl rfl rfl rfl (fun r H' hres=>?_)
  obtain ⟨rfl,N,rfl⟩:=hres
  refine ⟨_,rfl,?_⟩
  repeat (first|refine jS ?_|refine jD ?_|refine jB ?_|refine jo rfl rfl (eq_someI rfl rfl rfl) rfl rfl ?_)
  exact jR
 | range =>
  rw [hat] at ha
  refine jC Tryz.func170 Tryz.ntmps170 (fun w0 β0 ext hβ=>?_)
  repeat (first|refine jS ?_|refine jD ?_|refine jB ?_)
  refine jcq ha rfl rfl rfl rfl (fun r H' hres=>?_)
  obtain ⟨rfl,N,rfl⟩:=hres
  refine ⟨_,rfl,?_⟩
  repeat (first|refine jS ?_|refine jD ?_|refine jB ?_|refine jo rfl rfl (eq_someI rfl rfl rfl) rfl rfl ?_)
  exact jR
end Go.AL
end
section
set_option maxRecDepth 100000
namespace Go.AL
open Go Go.Proofs
attribute [local irreducible] J
def tup2 (p:Int × Int):AVal:=.tup [iv p.1,iv p.2]
def rdR:Bs→Int × Int
 | [a,b]=>cond (decide (a.toNat=114)) (cond (inn b.toNat 48 55) ((b.toNat:Int)-48,0) (0,3)) (0,3)
 | _=>(0,3)
def rdN (s:Bs):Int × Int:=cond (numOk s) (numV s,0) (0,3)
def rdT (m:Mp) (s:Bs):Int × Int:=cond (nameP s) (match m.lookup s with|some n=>(n,0)|none=>(0,11)) (0,3)
theorem rdN_ok (g:Gl) (s:Bs) (hs:s.length≤1000000):ACalls Tryz.prog 169 [sv s] (gls g) (one (tup2 (rdN s)) (gls g)):=by
 have hn:=number_ok g s hs
 unfold rdN
 generalize numV s=v at *
 generalize numOk s=b at *
 unfold sv bv iv at hn
 cases b
 all_goals refine jC Tryz.func169 Tryz.ntmps169 (fun w0 β0 ext hβ=>?_)
 all_goals (
  repeat (first|refine jS ?_|refine jD ?_|refine jB ?_)
 )
 all_goals refine jBb [0,1,2,3] hn ?_
 all_goals (
  repeat (first|refine jS ?_|refine jD ?_|refine jB ?_)
 )
 all_goals exact jR
theorem rdT_ok (m:Mp) (s:Bs):ACalls Tryz.prog 171 [sv s,.ptr 1 0] [.vmap (encM m),.box 186 [.mp 0]] (one (tup2 (rdT m s)) [.vmap (encM m),.box 186 [.mp 0]]):=by
 have hn:=isName_ok s
 have hf:=encM_find m s
 have hks:=encM_keys m
 unfold rdT
 generalize nameP s=b at *
 unfold sv bv at hn
 cases hlk:m.lookup s with
 | none =>
  rw [hlk] at hf
  simp only [Option.map_none] at hf
  cases b
  all_goals refine jC Tryz.func171 Tryz.ntmps171 (fun w0 β0 ext hβ=>?_)
  all_goals (
   repeat (first|refine jS ?_|refine jD ?_|refine jB ?_|refine jV hn ?_|refine jo rfl rfl (map_get rfl rfl rfl rfl rfl rfl rfl rfl rfl trivial hks hf rfl) rfl rfl ?_)
  )
  all_goals exact jR
 | some n =>
  rw [hlk] at hf
  simp only [Option.map_some] at hf
  cases b
  all_goals refine jC Tryz.func171 Tryz.ntmps171 (fun w0 β0 ext hβ=>?_)
  all_goals (
   repeat (first|refine jS ?_|refine jD ?_|refine jB ?_|refine jV hn ?_|refine jo rfl rfl (map_get rfl rfl rfl rfl rfl rfl rfl rfl rfl trivial hks hf rfl) rfl rfl ?_)
  )
  all_goals exact jR
theorem rdR_ok (s:Bs):ACalls Tryz.prog 168 [sv s] [] (one (tup2 (rdR s)) []):=by
 rcases s with _|⟨a,_|⟨b,_|⟨c,r⟩⟩⟩
 ·refine jC Tryz.func168 Tryz.ntmps168 (fun w0 β0 ext hβ=>?_)
  unfold sv S
  repeat (first|refine jS ?_|refine jD ?_|refine jB ?_)
  exact jR
 ·refine jC Tryz.func168 Tryz.ntmps168 (fun w0 β0 ext hβ=>?_)
  unfold sv S
  repeat (first|refine jS ?_|refine jD ?_|refine jB ?_)
  exact jR
 ·have hb:(b.toNat:Int)≤255:=by have:=b.toNat_lt;omega
  have hin:ACalls Tryz.prog 131 [.v (.int .i64 (IntKind.i64.wrap (b.toNat:Int))),.v (.int .i64 48),.v (.int .i64 55)] [] (one (.v (.bool (inn b.toNat 48 55))) []):=by rw [wrap_id (by omega) (by omega)];exact in_ok _ _ _
  have ha:((a.toNat:Int) != 114) = !decide (a.toNat=114):=by
   rw [Bool.eq_iff_iff];simp;omega
  have h8:IntKind.i64.wrap (IntKind.u8.wrap ((b.toNat:Int)-48))=cond (inn b.toNat 48 55) ((b.toNat:Int)-48) (IntKind.i64.wrap (IntKind.u8.wrap ((b.toNat:Int)-48))):=by
   cases hi:inn b.toNat 48 55 with
   | false=>rfl
   | true =>
    unfold inn at hi
    simp only [Bool.and_eq_true,decide_eq_true_eq] at hi
    simp only [cond_true,IntKind.wrap,IntKind.bits,IntKind.signed]
    simp
    omega
  unfold rdR
  simp only
  generalize inn b.toNat 48 55=b2 at *
  refine jC Tryz.func168 Tryz.ntmps168 (fun w0 β0 ext hβ=>?_)
  unfold sv S
  repeat (first|refine jS ?_|refine jD ?_|refine jB ?_|refine jV hin ?_|refine jo rfl rfl (index_str rfl rfl rfl rfl (by decide) (c:=a) rfl) rfl rfl ?_|refine jo rfl rfl (index_str rfl rfl rfl rfl (by decide) (c:=b) rfl) rfl rfl ?_)
  rw [ha]
  generalize decide (a.toNat=114)=b1 at *
  cases b1
  ·repeat (first|refine jS ?_|refine jD ?_|refine jB ?_)
   exact jR
  ·cases b2
   ·repeat (first|refine jS ?_|refine jD ?_|refine jB ?_|refine jV hin ?_|refine jo rfl rfl (index_str rfl rfl rfl rfl (by decide) (c:=a) rfl) rfl rfl ?_|refine jo rfl rfl (index_str rfl rfl rfl rfl (by decide) (c:=b) rfl) rfl rfl ?_)
    exact jR
   ·repeat (first|refine jS ?_|refine jD ?_|refine jB ?_|refine jV hin ?_|refine jo rfl rfl (index_str rfl rfl rfl rfl (by decide) (c:=a) rfl) rfl rfl ?_|refine jo rfl rfl (index_str rfl rfl rfl rfl (by decide) (c:=b) rfl) rfl rfl ?_)
    rw [h8]
    exact jR
 ·refine jC Tryz.func168 Tryz.ntmps168 (fun w0 β0 ext hβ=>?_)
  unfold sv S
  repeat (first|refine jS ?_|refine jD ?_|refine jB ?_)
  exact jR
def rdFns:List (Value × AVal):=[(.int .u8 114,.fn (.func 168) [] []),(.int .u8 110,.fn (.func 169) [] []),(.int .u8 116,.fn (.func 171) [] [.ptr 1 0])]
theorem readers_ok (m:Mp):ACalls Tryz.prog 118 [.mp 0] [.vmap (encM m)] (one (.mp 2) [.vmap (encM m),.box 186 [.mp 0],.map rdFns]):=by
 refine jC Tryz.func118 Tryz.ntmps118 (fun w0 β0 ext hβ=>?_)
 repeat (first|refine jS ?_|refine jD ?_|refine jB ?_|refine jo rfl rfl (map_new) rfl rfl ?_|refine jo rfl rfl (map_put (mo':=.map [(.int .u8 114,.fn (.func 168) [] [])]) (.inr rfl) rfl rfl rfl rfl rfl rfl rfl rfl rfl rfl (by simp [MKeys]) rfl rfl) rfl rfl ?_|refine jo rfl rfl (map_put (mo':=.map [(.int .u8 114,.fn (.func 168) [] []),(.int .u8 110,.fn (.func 169) [] [])]) (.inr rfl) rfl rfl rfl rfl rfl rfl rfl rfl rfl rfl (show MKeys (.int .u8) _ by simp [MKeys,MapKept.IsKey]) (.inr ⟨by simp,_,rfl,rfl⟩) rfl) rfl rfl ?_|refine jo rfl rfl (map_put (mo':=.map rdFns) (.inr rfl) rfl rfl rfl rfl rfl rfl rfl rfl rfl rfl (show MKeys (.int .u8) _ by simp [MKeys,MapKept.IsKey]) (.inr ⟨by simp,_,rfl,.inr ⟨by simp,_,rfl,rfl⟩⟩) rfl) rfl rfl ?_)
 exact jret [1,2] true rfl rfl rfl ⟨rfl,rfl⟩
end Go.AL
end
section
set_option maxRecDepth 100000
namespace Go.AL
open Go Go.Proofs
attribute [local irreducible] J
def words (s:Bs):List Bs:=Lib.split s [32]
theorem words_vals (s:Bs):(Lib.splitB ⟨#[32]⟩ 0 (Lib.countB ⟨s.toArray⟩ ⟨#[32]⟩) ⟨s.toArray⟩).map Value.string=(words s).map S:=by
 unfold words Lib.split
 have h:=Lib.splitB_data ⟨#[32]⟩ 0 (Lib.countB ⟨s.toArray⟩ ⟨#[32]⟩) ⟨s.toArray⟩
 show _=(Lib.splitK [32] 0 (Lib.count s [32]) s).map S
 rw [show Lib.splitK [32] 0 (Lib.count s [32]) s=_ from h.symm,List.map_map]
 apply List.map_congr_left
 intro b _
 rfl
theorem words_len (s:Bs):(words s).length=Lib.countB ⟨s.toArray⟩ ⟨#[32]⟩+1:=by
 have h:=congrArg List.length (words_vals s)
 simp only [List.length_map] at h
 rw [←h]
 exact Lib.splitB_all ⟨#[32]⟩ (by simp [ByteArray.size]) 0 _ _ rfl
theorem split_ok (g:Gl) (s:Bs) (hs:s.length≤1000000):ACalls Tryz.prog 177 [sv s,sv [32]] (gls g) (one (.slf ((words s).map sv)) (gls g)):=by
 refine ⟨⟨_,Tryz.func177,by kernel_rfl,by kernel_rfl⟩,fun ext w β us hI hx hr=>?_⟩
 rw [vals_rel (xs:=[S s,S [32]]) hr]
 have hsz:ByteArray.size ⟨s.toArray⟩≤1000000:=by simpa [ByteArray.size] using hs
 have hm:w.cell? ⟨4,0,none⟩=some (.int .i64 g.m):=by
  have hj:3 < β.length:=by rw [hI.len];show 3 < 4;omega
  have hfx:RelO (ctx ext w β) β[3] (.fix 4 (.cells #[.int .i64 g.m] g.t0 g.f0)):=hI.obj 3 (.fix 4 (.cells #[.int .i64 g.m] g.t0 g.f0)) _ rfl (List.getElem?_eq_getElem hj)
  have:=hfx.2.2.1
  simp [World.cell?,this]
 refine (Tryz.strings_Split ⟨s.toArray⟩ ⟨#[32]⟩ g.m w (by omega) hm (by simp [ByteArray.size])).mono fun e w' ⟨h1,h2⟩=>?_
 rw [words_vals] at h2
 rw [h1]
 have hlen:=words_len s
 have hb:RowKit.Below w.heap.size w w':=by
  rw [h2]
  exact (RowKit.Below.refl _ w).alloc (Nat.le_refl _) _
 refine ⟨_,_,β,⟨rfl,rfl⟩,?_,below_inv hI hb,below_step hb β fun b hb=>(hI.sep b hb).2⟩
 refine ⟨some ⟨w.heap.size,0,none⟩,1,by simp only [List.length_map];rw [hlen],fun _=>⟨w.heap.size,0,rfl,?_,?_⟩,?_⟩
 ·rintro (hq|hq)
  ·have:=hx _ hq;omega
  ·have:=(hI.sep _ hq).2;omega
 ·show w.heap.size < w'.heap.size
  rw [h2];simp
 ·refine RelR.of_get fun i a ha=>?_
  rw [List.getElem?_map] at ha
  cases hw:(words s)[i]? with
  | none=>rw [hw] at ha;cases ha
  | some q =>
   rw [hw] at ha;simp at ha;subst ha
   refine ⟨S q,rfl,rfl,fun p hp=>?_⟩
   have hp0:p=0:=by omega
   subst hp0
   show w'.cell? ⟨w.heap.size,0+((0+i)*1+0),none⟩=_
   rw [h2]
   have:=World.alloc_heap_new w (.cells ((words s).map S).toArray 9)
   simp only [World.cell?,this,Option.isSome_none]
   simp [hw,Value.cells,S]
def opsT:List (Bs × Bs):=[([104,97,108,116],[]),([115,101,116],[114,110]),([109,111,118,101],[114,114]),([112,108,117,115],[114,114,110]),([109,97,115,107],[114,114,110]),([97,100,100],[114,114,114]),([115,117,98],[114,114,114]),
 ([97,110,100],[114,114,114]),([120,111,114],[114,114,114]),([108,101,115,115],[114,114,114]),([106,117,109,112],[116]),([122,101,114,111],[114,116]),([115,111,109,101],[114,116]),([99,97,108,108],[116]),
 ([114,101,116],[]),([115,101,108,102],[114]),([108,111,97,100],[114,114,110]),([115,116,111,114,101],[114,114,110]),([102,101,110,99,101],[]),([99,97,115],[114,114,114]),([120,99,104,103],[114,114]),
 ([102,101,116,99,104],[114,114]),([98,114,111,97,100],[]),([119,97,105,116],[114,114]),([111,119,110],[114,114]),([100,114,111,112],[114,114]),([109,97,114,107],[110])]
def opsC:List AVal:=opsT.flatMap fun p=>[sv p.1,sv p.2]
theorem operations_ok:ACalls Tryz.prog 129 [] [] (one (.agg opsC) []):=by
 refine jC Tryz.func129 Tryz.ntmps129 (fun w0 β0 ext hβ=>?_)
 repeat (first|refine jS ?_|refine jD ?_|refine jB ?_)
 exact jR
end Go.AL
end
section
set_option maxRecDepth 100000
namespace Go.AL
open Go Go.Proofs
attribute [local irreducible] J
theorem isOp_ok (a k w:Bs) (r:List Bs):ACalls Tryz.prog 179 [.agg [sv a,sv k],.ptr 0 0] [.box 96 [.slf ((w::r).map sv)]] (one (bv (decide (a=w))) [.box 96 [.slf ((w::r).map sv)]]):=by
 have key:=str_eq a w
 have hlt:(0:Int) < ((w::r).length:Int):=by rw [List.length_cons];omega
 refine jC Tryz.func179 Tryz.ntmps179 (fun w0 β0 ext hβ=>?_)
 repeat (first|refine jS ?_|refine jD ?_|refine jB ?_|refine jo rfl rfl (index_at rfl rfl rfl rfl rfl rfl rfl rfl (by decide) hlt) rfl rfl ?_)
 exact jret [] false rfl rfl rfl ⟨congrArg (fun b=>ARes.ret (AVal.v (.bool b))) key,rfl⟩
theorem ops_at:∀ (i:Nat),i < 27→takeA ty213 opsC (0+i*ty213.size)=some (.agg [sv (at' opsT (i:Int)).1,sv (at' opsT (i:Int)).2])
 | 0,_=>rfl
 | 1,_=>rfl
 | 2,_=>rfl
 | 3,_=>rfl
 | 4,_=>rfl
 | 5,_=>rfl
 | 6,_=>rfl
 | 7,_=>rfl
 | 8,_=>rfl
 | 9,_=>rfl
 | 10,_=>rfl
 | 11,_=>rfl
 | 12,_=>rfl
 | 13,_=>rfl
 | 14,_=>rfl
 | 15,_=>rfl
 | 16,_=>rfl
 | 17,_=>rfl
 | 18,_=>rfl
 | 19,_=>rfl
 | 20,_=>rfl
 | 21,_=>rfl
 | 22,_=>rfl
 | 23,_=>rfl
 | 24,_=>rfl
 | 25,_=>rfl
 | 26,_=>rfl
 | n+27,h=>absurd h (by omega)
def findOp (w:Bs):Int:=match opsT.findIdx? (fun p=>decide (p.1=w)) with|some i=>i|none=>-1
theorem indexOp_ok (w:Bs) (r:List Bs):ACalls Tryz.prog 178 [.bs 0 0 27 27,.fn (.func 179) [] [.ptr 1 0]] [.box 214 opsC,.box 96 [.slf ((w::r).map sv)]]
  (one (iv (findOp w)) [.box 214 opsC,.box 96 [.slf ((w::r).map sv)]]):=by
 refine jC Tryz.func178 Tryz.ntmps178 (fun w0 β0 ext hβ=>?_)
 repeat (first|refine jS ?_|refine jD ?_|refine jB ?_|refine jo rfl rfl (len_bs rfl rfl rfl) rfl rfl ?_)
 refine jloopI (fun k:Nat=>k≤27∧∀ i,i < k→(at' opsT (i:Int)).1≠w) [0,1,8,7] (fun k=>[.bs 0 0 27 27,.fn (.func 179) [] [.ptr 1 0],.v (.int .i64 (k:Int)),.v (.int .i64 ((27:Nat):Int))]) (fun _=>[.box 214 opsC,.box 96 [.slf ((w::r).map sv)]]) (fun k=>27-k) 0 ⟨Nat.zero_le _,fun i h=>absurd h (by omega)⟩ rfl rfl (fun k hk=>?_)
 obtain ⟨hk,hno⟩:=hk
 repeat (first|refine jS ?_|refine jD ?_|refine jB ?_)
 refine jc rfl rfl rfl (fun h=>?_) (fun h=>?_)
 ·have h:=of_decide_eq_true h
  have hk2:k < 27:=by omega
  have hat:=ops_at k hk2
  have hc:=isOp_ok (at' opsT (k:Int)).1 (at' opsT (k:Int)).2 w r
  repeat (first|refine jS ?_|refine jD ?_|refine jB ?_|refine jo rfl rfl (index_bs rfl rfl rfl rfl rfl (by omega) (by omega)) rfl rfl ?_|refine jo rfl rfl (load_dsem rfl rfl rfl hat) rfl rfl ?_)
  refine jBb [1] hc ?_
  generalize hb:decide ((at' opsT (k:Int)).1=w)=b at *
  repeat (first|refine jS ?_|refine jD ?_|refine jB ?_)
  refine jc rfl rfl rfl (fun h1=>?_) (fun h1=>?_)
  ·subst h1
   repeat (first|refine jS ?_|refine jD ?_|refine jB ?_)
   refine jret [] false rfl rfl rfl ⟨?_,rfl⟩
   have:findOp w=(k:Int):=by
    unfold findOp
    have hkl:k < opsT.length:=hk2
    have e:=at_nat opsT k hkl
    rw [e] at hb
    rw [List.findIdx?_eq_some_iff_getElem.2 ⟨hkl,hb,fun j hj=>by
     have hjl:j < opsT.length:=by show j < 27;omega
     have e2:=hno j hj
     rw [at_nat opsT j hjl] at e2
     simpa using e2⟩]
   rw [this];rfl
  ·subst h1
   repeat (first|refine jS ?_|refine jD ?_|refine jB ?_)
   refine jnextI (k+1) ⟨by omega,fun i hi=>?_⟩ ?_ rfl (by omega)
   ·by_cases hik:i=k
    ·subst hik;exact of_decide_eq_false hb
    ·exact hno i (by omega)
   ·show some _=some _
    rw [idx_next hk2 (by omega)]
 ·have h:=of_decide_eq_false h
  repeat (first|refine jS ?_|refine jD ?_|refine jB ?_)
  refine jret [] false rfl rfl rfl ⟨?_,rfl⟩
  have:findOp w = -1:=by
   unfold findOp
   rw [List.findIdx?_eq_none_iff.2 fun p hp=>?_]
   obtain ⟨i,hi,rfl⟩:=List.getElem_of_mem hp
   have hi':i < 27:=hi
   have e2:=hno i (by omega)
   rw [at_nat opsT i hi] at e2
   simpa using e2
  rw [this];rfl
end Go.AL
end
