/-
  Part 7 of the proof texts: the program logic over the model, then the contracts of the functions that the laws reach. No conditions.
-/
import Derived.Test.YteefnlbapebamaaGreatDoorD6
import Derived.WalkKit
set_option linter.unusedVariables false
set_option linter.unusedSimpArgs false
set_option maxHeartbeats 2000000
section
namespace Go.AL
open Go Go.Proofs
theorem labels_look (s w:Bs):(labels s).lookup w=((rlines s).findIdx? (fun l=>decide (l=w++[58]))).map (nl (rlines s)):=by
 obtain ⟨x,_,hc,hx⟩:=lines_split s
 have hi:=(lab_inv (rlines s) (rlines s).length (Nat.le_refl _)).2 w
 rw [List.take_length] at hi
 rw [←hi]
 unfold labels labSt
 rw [hc,List.take_length]
 have hl:((rlines s).map (· ++ [10])).take (rlines s).length=(rlines s).map (· ++ [10]):=List.take_of_length_le (by simp)
 rw [hl]
 by_cases h:x=[]
 ·rw [if_pos h,List.append_nil]
 ·rw [if_neg h,List.foldl_append]
  generalize List.foldl stepL ([],0) ((rlines s).map (· ++ [10]))=st
  show (stepL st x).1.lookup w=_
  unfold stepL
  rw [(no_end hx).1]
  rfl
theorem rdT_eq (s w:Bs):rdT (labels s) w=ropT (rlines s) w:=by
 unfold rdT ropT rtarget
 rw [name_eq,labels_look]
 cases (rlines s).findIdx? (fun l=>decide (l=w++[58]))<;>rfl
theorem rd_eq (s:Bs) (c:UInt8) (w:Bs):rd (labels s) c w=rop (rlines s) c w:=by
 unfold rd rop
 rw [rdN_eq,rdT_eq]
theorem rdAll_eq (s:Bs):∀ (kd:Bs) (ws:List Bs),rdAll (labels s) kd ws=rAll (rlines s) kd ws
 | [],_=>rfl
 | _::_,[]=>rfl
 | c::cs,w::ws=>by
  rw [rdAll,rAll,rd_eq,rdAll_eq s cs ws]
theorem words_eq (l:Bs):words l=rsplit 32 l:=by
 unfold words
 rw [split_eq,rsplit_eq]
theorem instr_eq (s l:Bs) (n:Int):rinstr (rlines s) l n=cond (decide ((instrP (labels s) l).2=0)) (cond (decide (n≥1000)) (default,2) (instrP (labels s) l)) (instrP (labels s) l):=by
 cases hw:rsplit 32 l with
 | nil =>
  have e1:instrP (labels s) l=(default,10):=by unfold instrP;rw [words_eq,hw]
  have e2:rinstr (rlines s) l n=(default,10):=by unfold rinstr;rw [hw]
  rw [e1,e2];rfl
 | cons w ws =>
  have e1:instrP (labels s) l=cond (decide (findOp w < 0)) (default,10) (instrK (labels s) (findOp w) (at' opsT (findOp w)).2 ws):=by unfold instrP;rw [words_eq,hw]
  have e2:rinstr (rlines s) l n=cond (decide (findOp w < 0)) (default,10) (rinstrK (rlines s) (findOp w) (at' opK (findOp w)) ws n):=by unfold rinstr;rw [hw]
  rw [e1,e2]
  rcases findOp_cases w with h|⟨k,hk,h⟩
  ·rw [h];rfl
  ·have h0:decide ((k:Int) < 0)=false:=by simp
   rw [h,h0,opK_at k hk]
   simp only [cond_false]
   unfold rinstrK instrK
   rw [rdAll_eq]
   cases decide (ws.length=(at' opsT (k:Int)).2.length) with
   | false=>rfl
   | true =>
    simp only [cond_true]
    by_cases hz:(rAll (rlines s) (at' opsT (k:Int)).2 ws).2=0
    ·rw [hz];simp
    ·simp [hz]
theorem instr_lt (s l:Bs) (n:Nat) (h:(rinstr (rlines s) l n).2=0):n < 1000∧rinstr (rlines s) l n=instrP (labels s) l:=by
 rw [instr_eq] at h ⊢
 by_cases h0:(instrP (labels s) l).2=0
 ·rw [decide_eq_true h0] at h ⊢
  simp only [cond_true] at h ⊢
  by_cases hn:(n:Int)≥1000
  ·rw [decide_eq_true hn] at h
   simp only [cond_true] at h
   exact absurd h (by decide)
  ·rw [decide_eq_false hn]
   exact ⟨by omega,rfl⟩
 ·rw [decide_eq_false h0] at h
  exact absurd h h0
theorem bad1_inv {e:Nat→Int}:∀ {n:Nat},(bad1 e n=none→∀ q,q < n→e q=0)∧(∀ k,bad1 e n=some k→k < n∧(∀ q,q < k→e q=0)∧e k≠0)
 | 0=>⟨fun _ q h=>absurd h (by omega),fun k h=>by cases h⟩
 | n+1=>by
  obtain ⟨i1,i2⟩:=bad1_inv (e:=e) (n:=n)
  rw [bad1]
  cases hb:bad1 e n with
  | some k =>
   refine ⟨fun h=>(by cases h),fun q h=>?_⟩
   injection h with h
   subst h
   obtain ⟨a,b,c⟩:=i2 _ hb
   exact ⟨by omega,b,c⟩
  | none =>
   have i1:=i1 hb
   by_cases h0:e n=0
   ·rw [decide_eq_true h0]
    refine ⟨fun _ q hq=>?_,fun k h=>(by cases h)⟩
    by_cases e:q=n
    ·rw [e];exact h0
    ·exact i1 q (by omega)
   ·rw [decide_eq_false h0]
    refine ⟨fun h=>(by cases h),fun k h=>?_⟩
    injection h with h
    subst h
    exact ⟨by omega,i1,h0⟩
def PInv (s:Bs) (k:Nat):Prop :=
 (pSt (labels s) (chunks s) k).2=rpSt (rlines s) k∧(rpSt (rlines s) k).length≤1000∧(∀ b,0≤cnt (pSt (labels s) (chunks s) k).1 b)∧∀ b,decide (cnt (pSt (labels s) (chunks s) k).1 b+1 > 1)=((rlines s).take k).any fun l=>decide (l=b)
theorem chunk_at (s:Bs) {k:Nat} (h:k < (rlines s).length):∃ h2:k < (chunks s).length,(chunks s)[k]=(rlines s)[k]++[10]:=by
 obtain ⟨x,_,hc,_⟩:=lines_split s
 have h2:k < (chunks s).length:=by rw [hc];simp;omega
 refine ⟨h2,?_⟩
 have:(chunks s)[k]? = some ((rlines s)[k]++[10]):=by
  rw [hc,List.getElem?_append_left (by simpa using h)]
  simp [h]
 rw [List.getElem?_eq_getElem h2] at this
 injection this
theorem rpE_eq (s:Bs) {k:Nat} (h:k < (rlines s).length) (hi:PInv s k):pE (labels s) (chunks s) k=rpE (rlines s) k:=by
 obtain ⟨h2,hc⟩:=chunk_at s h
 obtain ⟨i1,i2,_,i3⟩:=hi
 unfold pE rpE
 rw [List.getElem?_eq_getElem h2,hc]
 simp only
 have hg:(rlines s).getD k []=(rlines s)[k]:=by simp [List.getD,h]
 rw [hg]
 unfold lineE
 rw [bare_end,ended_end,isLab_eq,i3,i1]
 cases hr:rlab (rlines s)[k] with
 | true =>
  obtain ⟨hd,_⟩:=labName_eq _ hr
  rw [hd,name_eq]
  cases rname (rlines s)[k].dropLast<;>simp
 | false =>
  have e:decide ((rpSt (rlines s) k).length=1000)=decide (((rpSt (rlines s) k).length:Int)≥1000):=by
   by_cases h3:(rpSt (rlines s) k).length=1000
   ·rw [decide_eq_true h3,decide_eq_true (by omega)]
   ·rw [decide_eq_false h3,decide_eq_false (by omega)]
  rw [instr_eq,e]
  simp only [Bool.not_true,Bool.false_and,Bool.or_false,cond_false]
  by_cases h0:(instrP (labels s) (rlines s)[k]).2=0
  ·rw [decide_eq_true h0]
   simp only [cond_true]
   cases decide (((rpSt (rlines s) k).length:Int)≥1000)
   ·exact h0.symm
   ·rfl
  ·rw [decide_eq_false h0]
   rfl
theorem inv_all (s:Bs):∀ k,k≤(rlines s).length→(∀ q,q < k→rpE (rlines s) q=0)→PInv s k
 | 0,_,_=>⟨rfl,by simp [rpSt],fun b=>by simp [pSt,cnt],fun b=>by simp [pSt,cnt]⟩
 | k+1,hk,hz=>by
  have ih:=inv_all s k (by omega) (fun q hq=>hz q (by omega))
  have h:k < (rlines s).length:=by omega
  have hE:=hz k (by omega)
  obtain ⟨h2,hc⟩:=chunk_at s h
  obtain ⟨i1,i2,i0,i3⟩:=ih
  have hg:(rlines s).getD k []=(rlines s)[k]:=by simp [List.getD,h]
  unfold PInv
  rw [pSt_succ h2,hc,bare_end,rpSt_succ h]
  have hcd:lineC (labels s) (pSt (labels s) (chunks s) k).2 ((rlines s)[k]++[10])=cond (rlab (rlines s)[k]) (rpSt (rlines s) k) (rpSt (rlines s) k++[(rinstr (rlines s) (rlines s)[k] (rpSt (rlines s) k).length).1])∧(cond (rlab (rlines s)[k]) (rpSt (rlines s) k) (rpSt (rlines s) k++[(rinstr (rlines s) (rlines s)[k] (rpSt (rlines s) k).length).1])).length≤1000:=by
   unfold lineC
   unfold rpE at hE
   rw [hg] at hE
   rw [bare_end,isLab_eq,i1]
   cases hr:rlab (rlines s)[k] with
   | true=>exact ⟨rfl,i2⟩
   | false =>
    rw [hr] at hE
    obtain ⟨hn,he⟩:=instr_lt s _ _ hE
    simp only [cond_false]
    rw [he]
    refine ⟨rfl,?_⟩
    rw [List.length_append];simp;omega
  refine ⟨hcd.1,hcd.2,fun b=>?_,fun b=>?_⟩
  ·rw [bump_cnt]
   have a:=i0 (rlines s)[k];have c:=i0 b
   cases decide ((rlines s)[k]=b)<;>simp<;>omega
  ·rw [bump_cnt,List.take_succ_eq_append_getElem h,List.any_append,←i3]
   have a:=i0 (rlines s)[k]
   by_cases e:(rlines s)[k]=b
   ·simp only [List.any_cons,List.any_nil,Bool.or_false,decide_eq_true e,cond_true,Bool.or_true,decide_eq_true_eq]
    omega
   ·simp only [List.any_cons,List.any_nil,Bool.or_false,decide_eq_false e,cond_false]
theorem parse_eq (s:Bs):parseP s=rparse s:=by
 unfold parseP rparse
 by_cases h4:s.length > 40000
 ·rw [decide_eq_true h4];rfl
 ·rw [decide_eq_false h4]
  simp only [cond_false]
  have hcut:chunks s=chunks s:=rfl
  obtain ⟨x,hs,hc,hx⟩:=lines_split s
  obtain ⟨b1,b2⟩:=bad1_inv (e:=rpE (rlines s)) (n:=(rlines s).length)
  have hlen:(chunks s).length=(rlines s).length+(if x=[] then [] else [x]:List Bs).length:=by rw [hc];simp
  have hlx:(rsplit 10 s).getLast? = some x:=by rw [hs];simp
  have hln:(rsplit 10 s).length=(rlines s).length+1:=by rw [hs];simp
  cases hb:bad1 (rpE (rlines s)) (rlines s).length with
  | some k =>
   obtain ⟨k1,k2,k3⟩:=b2 k hb
   have hz:∀ q,q≤k→pE (labels s) (chunks s) q=rpE (rlines s) q:=fun q hq =>
    rpE_eq s (by omega) (inv_all s q (by omega) (fun p hp=>k2 p (by omega)))
   have hp:bad1 (pE (labels s) (chunks s)) (chunks s).length=some k :=
    bad1_some (fun q hq=>by rw [hz q (by omega)];exact k2 q hq) (by rw [hz k (by omega)];exact k3) (by omega)
   rw [hp]
   simp only
   rw [hz k (by omega)]
  | none =>
   have b1:=b1 hb
   have hi:=inv_all s (rlines s).length (Nat.le_refl _) b1
   have hz:∀ q,q < (rlines s).length→pE (labels s) (chunks s) q=0:=fun q hq=>by
    rw [rpE_eq s hq (inv_all s q (by omega) (fun p hp=>b1 p (by omega)))];exact b1 q hq
   rw [hlx]
   by_cases h0:x=[]
   ·have hn:(chunks s).length=(rlines s).length:=by rw [hlen,if_pos h0];rfl
    rw [bad1_none (fun q hq=>hz q (by omega)),hn]
    simp only
    rw [hi.1,h0]
    rfl
   ·have hn:(chunks s).length=(rlines s).length+1:=by rw [hlen,if_neg h0];rfl
    have he:pE (labels s) (chunks s) (rlines s).length=12:=by
     unfold pE
     rw [hc,List.getElem?_append_right (by simp),if_neg h0]
     simp only [List.length_map,Nat.sub_self,List.getElem?_cons_zero]
     unfold lineE
     rw [(no_end hx).1]
     rfl
    rw [bad1_some (k:=(rlines s).length) hz (by rw [he];decide) (by omega)]
    simp only
    rw [he,hln]
    have:decide (some x=some ([]:Bs))=false:=by simp [h0]
    rw [this]
    simp
end Go.AL
end
section
namespace Go.AL
open Go Go.Proofs
theorem nl_left (l1 l2:List Bs) {i:Nat} (h:i≤l1.length):nl (l1++l2) i=nl l1 i:=by
 unfold nl
 rw [List.take_append_of_le_length h]
theorem nl_mono (ls:List Bs) {i j:Nat} (h:i≤j):nl ls i≤nl ls j:=by
 unfold nl
 have:(ls.take i) <+: (ls.take j):=List.take_prefix_take_left h
 have:=(List.IsPrefix.filter (fun l=>!rlab l) this).length_le
 omega
theorem rpSt_nl (ls:List Bs):∀ k,k≤ls.length→((rpSt ls k).length:Int)=nl ls k
 | 0,_=>by simp [rpSt,nl]
 | k+1,h=>by
  have ih:=rpSt_nl ls k (by omega)
  have hk:k < ls.length:=by omega
  rw [rpSt_succ hk,nl_succ hk,←ih]
  cases rlab ls[k]<;>simp
theorem tgt_l {l1:List Bs} (l2:List Bs) {w:Bs} (h:(rtarget l1 w).2=true):rtarget (l1++l2) w=rtarget l1 w:=by
 unfold rtarget at h ⊢
 rw [List.findIdx?_append]
 cases hf:l1.findIdx? (fun l=>decide (l=w++[58])) with
 | none=>rw [hf] at h;cases h
 | some i =>
  obtain ⟨hi,_⟩:=List.findIdx?_eq_some_iff_getElem.1 hf
  simp only [Option.some_or]
  rw [nl_left l1 l2 (by omega)]
theorem rAll_inv (ls:List Bs):∀ (kd:Bs) (ws:List Bs),ws.length=kd.length→(rAll ls kd ws).2=0→∀ q,q < kd.length→(rop ls (kd.getD q 0) (ws.getD q [])).2=0
 | [],ws,_,_,q,hq=>absurd hq (by simp)
 | c::kd,[],h,_,_,_=>by simp at h
 | c::kd,w::ws,h,ha,q,hq=>by
  rw [rAll] at ha
  by_cases h0:(rop ls c w).2=0
  ·rw [decide_eq_true h0] at ha
   simp only [cond_true] at ha
   cases q with
   | zero=>simpa using h0
   | succ q=>simpa using rAll_inv ls kd ws (by simpa using h) ha q (by simpa using hq)
  ·rw [decide_eq_false h0] at ha
   exact absurd ha h0
theorem rAll_get {ls:List Bs} {kd:Bs} {ws:List Bs} (hl:ws.length=kd.length) (h:∀ q,q < kd.length→(rop ls (kd.getD q 0) (ws.getD q [])).2=0) (q:Nat) :
  (rAll ls kd ws).1.getD q 0=cond (decide (q < kd.length)) (rop ls (kd.getD q 0) (ws.getD q [])).1 0:=by
 by_cases hq:q < kd.length
 ·rw [decide_eq_true hq]
  exact (rAll_ok ls kd ws hl h).2 q hq
 ·rw [decide_eq_false hq]
  have:=rAll_len ls kd ws
  rw [List.getD,List.getElem?_eq_none (by omega)];rfl
def LineOk (ls:List Bs) (l:Bs) (k:Nat) (ws:List Bs):Prop :=
 k < 27∧(∃ w,rsplit 32 l=w::ws∧findOp w=(k:Int))∧ws.length=(at' opsT (k:Int)).2.length∧∀ q,q < (at' opsT (k:Int)).2.length→(rop ls ((at' opsT (k:Int)).2.getD q 0) (ws.getD q [])).2=0
def insOf (ls:List Bs) (k:Nat) (ws:List Bs):Ins :=
 ⟨k,(rAll ls (at' opsT (k:Int)).2 ws).1.getD 0 0,(rAll ls (at' opsT (k:Int)).2 ws).1.getD 1 0,(rAll ls (at' opsT (k:Int)).2 ws).1.getD 2 0⟩
theorem rinstr_of {ls:List Bs} {l:Bs} {k:Nat} {ws:List Bs} (h:LineOk ls l k ws) (n:Int):rinstr ls l n=cond (decide (n≥1000)) (default,2) (insOf ls k ws,0):=by
 obtain ⟨hk,⟨w,hw,hf⟩,hl,ha⟩:=h
 unfold rinstr
 rw [hw]
 simp only
 have h0:decide ((k:Int) < 0)=false:=by simp
 rw [hf,h0,opK_at k hk]
 simp only [cond_false]
 unfold rinstrK
 rw [decide_eq_true hl,(rAll_ok ls _ ws hl ha).1]
 rfl
theorem rinstr_inv {ls:List Bs} {l:Bs} {n:Int} (h:(rinstr ls l n).2=0):∃ k ws,LineOk ls l k ws∧¬n≥1000∧rinstr ls l n=(insOf ls k ws,0):=by
 have h':=h
 unfold rinstr at h
 cases hw:rsplit 32 l with
 | nil=>rw [hw] at h;exact absurd h (by simp)
 | cons w ws =>
  rw [hw] at h
  simp only at h
  rcases findOp_cases w with hf|⟨k,hk,hf⟩
  ·rw [hf] at h;exact absurd h (by simp)
  ·have h0:decide ((k:Int) < 0)=false:=by simp
   rw [hf,h0,opK_at k hk] at h
   simp only [cond_false] at h
   unfold rinstrK at h
   by_cases hl:ws.length=(at' opsT (k:Int)).2.length
   ·rw [decide_eq_true hl] at h
    simp only [cond_true] at h
    by_cases hz:(rAll ls (at' opsT (k:Int)).2 ws).2=0
    ·have hL:LineOk ls l k ws:=⟨hk,⟨w,hw,hf⟩,hl,rAll_inv ls _ ws hl hz⟩
     have e:=rinstr_of hL n
     by_cases hn:n≥1000
     ·rw [e,decide_eq_true hn] at h';exact absurd h' (by simp)
     ·rw [decide_eq_false hn] at e
      exact ⟨k,ws,hL,hn,e⟩
    ·rw [decide_eq_false hz] at h
     exact absurd h hz
   ·rw [decide_eq_false hl] at h
    exact absurd h (by simp)
theorem getD_at {ls:List Bs} {k:Nat} (h:k < ls.length):ls.getD k []=ls[k]:=by simp [List.getD,h]
theorem rparse_good {s:Bs} (h:(rparse s).2.2=0):s.length≤40000∧rsplit 10 s=rlines s++[[]]∧(∀ q,q < (rlines s).length→rpE (rlines s) q=0)∧rparse s=(rpSt (rlines s) (rlines s).length,0,0):=by
 obtain ⟨x,hs,_,_⟩:=lines_split s
 have hlx:(rsplit 10 s).getLast? = some x:=by rw [hs];simp
 have h':=h
 unfold rparse at h ⊢
 by_cases h4:s.length > 40000
 ·rw [decide_eq_true h4] at h;exact absurd h (by simp)
 ·rw [decide_eq_false h4] at h ⊢
  simp only [cond_false] at h ⊢
  cases hb:bad1 (rpE (rlines s)) (rlines s).length with
  | some k =>
   rw [hb] at h
   exact absurd h ((bad1_inv.2 k hb).2.2)
  | none =>
   rw [hb,hlx] at h
   by_cases hx1:x=[]
   ·rw [hx1] at hs hlx
    exact ⟨by omega,hs,bad1_inv.1 hb,by rw [hlx];rfl⟩
   ·rw [decide_eq_false (by simpa using hx1)] at h
    exact absurd h (by simp)
end Go.AL
end
section
namespace Go.AL
open Go Go.Proofs
def bd (v:Int):Prop:=-1000000000≤v∧v≤1000000000
theorem bd_zero:bd 0:=⟨by decide,by decide⟩
theorem ropN_bd (s:Bs):bd (ropN s).1:=by
 unfold ropN
 cases h:(rnum s).2 with
 | false=>exact bd_zero
 | true =>
  obtain ⟨v,hv⟩:=can_rnum h
  rw [rnum_can hv]
  exact hv.2
end Go.AL
end
section
namespace Go.AL
open Go Go.Proofs
def nm (k:Nat):Bs:=(at' opsT (k:Int)).1
def kdO (k:Nat):Bs:=(at' opsT (k:Int)).2
def pfx (c:UInt8):Bs:=cond (decide (c=114)) [114] (cond (decide (c=116)) [108] [])
def prW (c:UInt8) (v:Int):Bs:=pfx c++Lib.itoa v
def vals3 (i:Ins):List Int:=[i.a,i.b,i.c]
def prL (i:Ins):Bs:=nm i.op.toNat++(List.zipWith prW (kdO i.op.toNat) (vals3 i)).flatMap (32 :: ·)
def hasT (i:Ins) (n:Int):Bool:=(List.zip (kdO i.op.toNat) (vals3 i)).any fun p=>decide (p.1=116)&&decide (p.2=n)
def isT (l:List Ins) (n:Int):Bool:=l.any (hasT · n)
def lname (n:Nat):Bs:=108::Lib.itoa n
def lim (k:Option UInt8) (n:Nat):Int × Int:=match k with
 | none=>(0,0)
 | some c=>cond (decide (c=114)) (0,7) (cond (decide (c=110)) (-1000000000,1000000000) (0,n))
def mayV (k:Option UInt8) (n:Nat) (v:Int):Bool:=inn v (lim k n).1 (lim k n).2
def mayI (n:Nat) (i:Ins):Bool:=inn i.op 0 26&&(mayV (kdO i.op.toNat)[0]? n i.a&&(mayV (kdO i.op.toNat)[1]? n i.b&&mayV (kdO i.op.toNat)[2]? n i.c))
def rightC (l:List Ins):Bool:=decide (l.length≤1000)&&l.all (mayI l.length)
theorem cuts_sep (c:UInt8) (r:Bs):∀ a:Bs,c ∉ a→cuts c (a++c::r)=a::cuts c r
 | [],_=>by simp [cuts]
 | b::a,h=>by
  have ih:=cuts_sep c r a (fun hm=>h (List.mem_cons_of_mem _ hm))
  have hb:¬b=c:=fun e=>h (by simp [e])
  rw [List.cons_append,cuts,if_neg hb,ih];rfl
theorem cuts_one (c:UInt8):∀ a:Bs,c ∉ a→cuts c a=[a]
 | [],_=>by simp [cuts]
 | b::a,h=>by
  have ih:=cuts_one c a (fun hm=>h (List.mem_cons_of_mem _ hm))
  have hb:¬b=c:=fun e=>h (by simp [e])
  rw [cuts,if_neg hb,ih];rfl
theorem cuts_words (c:UInt8):∀ (ws:List Bs) (a:Bs),c ∉ a→(∀ w∈ws,c ∉ w)→cuts c (a++ws.flatMap (c :: ·))=a::ws
 | [],a,h,_=>by simpa using cuts_one c a h
 | w::ws,a,h,hw=>by
  rw [List.flatMap_cons,List.cons_append,cuts_sep c _ a h,cuts_words c ws w (hw w (by simp)) (fun x hx=>hw x (List.mem_cons_of_mem _ hx))]
theorem cuts_lines (c:UInt8):∀ (ls:List Bs),(∀ l∈ls,c ∉ l)→cuts c (ls.flatMap (· ++ [c]))=ls++[[]]
 | [],_=>by simp [cuts]
 | l::ls,h=>by
  rw [List.flatMap_cons,List.append_assoc,List.singleton_append,cuts_sep c _ l (h l (by simp)),cuts_lines c ls (fun x hx=>h x (List.mem_cons_of_mem _ hx))]
  rfl
def wch (c:UInt8):Bool:=dgt c||(decide (97≤c.toNat)&&decide (c.toNat≤122))||decide (c=45)
theorem wch_no {s:Bs} (h:s.all wch=true) {c:UInt8} (hc:wch c=false):c ∉ s:=fun hm=>by
 have:=List.all_eq_true.1 h c hm
 rw [hc] at this;cases this
theorem dgt_wch {s:Bs} (h:s.all dgt=true):s.all wch=true:=by
 rw [List.all_eq_true] at h ⊢
 intro x hx
 unfold wch
 rw [h x hx];rfl
theorem itoa_wch (v:Int):(Lib.itoa v).all wch=true:=by
 unfold Lib.itoa
 split
 ·rw [List.all_cons,dgt_wch (dd_all _)];rfl
 ·exact dgt_wch (dd_all _)
theorem itoa_nat (n:Nat):Lib.itoa (n:Int)=Lib.decDigits n:=by
 unfold Lib.itoa
 rw [if_neg (by omega)];rfl
theorem itoa_len {v:Int} (h:bd v):(Lib.itoa v).length≤11:=by
 unfold bd at h
 unfold Lib.itoa
 split
 ·have:=dd_len 9 v.natAbs (by omega)
  simp;omega
 ·have:=dd_len 9 v.toNat (by omega)
  omega
theorem nm_wch:∀ k:Nat,k < 27→(nm k).all wch=true∧(nm k).length≤5∧findOp (nm k)=(k:Int):=by decide +kernel
theorem kd_of:∀ k:Nat,k < 27→(kdO k).length≤3∧(kdO k).all (fun c=>decide (c=114)||(decide (c=110)||decide (c=116)))=true:=by decide
theorem prW_wch (c:UInt8) (v:Int):(prW c v).all wch=true:=by
 unfold prW pfx
 rw [List.all_append,itoa_wch]
 cases decide (c=114)
 ·cases decide (c=116)<;>rfl
 ·rfl
theorem mem_zipW {α β γ:Type} {f:α→β→γ}:∀ {A:List α} {B:List β} {w:γ},w∈List.zipWith f A B→∃ a b,w=f a b
 | [],_,_,h=>by simp at h
 | _::_,[],_,h=>by simp at h
 | a::A,b::B,w,h=>by
  rw [List.zipWith_cons_cons] at h
  rcases List.mem_cons.1 h with rfl|h
  ·exact ⟨a,b,rfl⟩
  ·exact mem_zipW h
theorem prL_words {i:Ins} (h:i.op.toNat < 27):rsplit 32 (prL i)=nm i.op.toNat::List.zipWith prW (kdO i.op.toNat) (vals3 i):=by
 rw [rsplit_eq]
 refine cuts_words 32 _ _ (wch_no (nm_wch _ h).1 (by decide)) (fun w hw=>?_)
 obtain ⟨a,b,rfl⟩:=mem_zipW hw
 exact wch_no (prW_wch _ _) (by decide)
theorem prL_no {i:Ins} (h:i.op.toNat < 27) {c:UInt8} (hc:wch c=false) (hc2:c≠32):c ∉ prL i:=by
 unfold prL
 intro hm
 rcases List.mem_append.1 hm with hm|hm
 ·exact wch_no (nm_wch _ h).1 hc hm
 ·obtain ⟨w,hw,hm⟩:=List.mem_flatMap.1 hm
  rcases List.mem_cons.1 hm with hm|hm
  ·exact hc2 hm
  ·obtain ⟨a,b,rfl⟩:=mem_zipW hw
   exact wch_no (prW_wch _ _) hc hm
theorem prL_lab {i:Ins} (h:i.op.toNat < 27):rlab (prL i)=false:=by
 unfold rlab
 cases hg:(prL i).getLast? with
 | none=>rfl
 | some d =>
  have:=List.mem_of_getLast? hg
  exact decide_eq_false fun e=>prL_no h (c:=58) (by decide) (by decide) (e ▸ this)
theorem lname_inj {m n:Nat} (h:lname m=lname n):m=n:=by
 unfold lname at h
 injection h with _ h
 rw [itoa_nat,itoa_nat] at h
 rw [←dd_val m,←dd_val n,h]
theorem lname_wch (n:Nat):(lname n).all wch=true:=by
 unfold lname
 rw [List.all_cons,itoa_wch];rfl
theorem lname_name {n:Nat} (h:n≤1000):rname (lname n)=true:=by
 have hl:=dd_len 9 n (by omega)
 have ha:=dd_all n
 unfold lname rname
 rw [itoa_nat]
 have e:(108::Lib.decDigits n).all azn=true:=by
  rw [List.all_cons,List.all_eq_true.2]
  ·rfl
  ·intro x hx
   have:=List.all_eq_true.1 ha x hx
   unfold dgt at this
   unfold azn
   simp at this ⊢
   omega
 simp only [e]
 simp
 omega
end Go.AL
end
section
namespace Go.AL
open Go Go.Proofs
theorem inn_iff {v a b:Int}:inn v a b=true↔a≤v∧v≤b:=by
 unfold inn;simp
theorem rop_pr_r (ls:List Bs) {v:Int} (h0:0≤v) (h7:v≤7):rop ls 114 (prW 114 v)=(v,0):=by
 obtain ⟨n,rfl⟩:∃ n:Nat,v=n:=⟨v.toNat,by omega⟩
 have hn:n≤7:=by omega
 unfold prW pfx
 rw [itoa_nat,Lib.decDigits_one (by omega)]
 show rdR [114,UInt8.ofNat (48+n)]=_
 have e:=(dgt_of n (by omega)).2
 show cond (decide ((114:UInt8).toNat=114)) (cond (inn (UInt8.ofNat (48+n)).toNat 48 55) (((UInt8.ofNat (48+n)).toNat:Int)-48,0) (0,3)) (0,3)=_
 have e2:((UInt8.ofNat (48+n)).toNat:Int)=48+n:=by rw [e];omega
 rw [e2]
 have h1:inn (48+(n:Int)) 48 55=true:=inn_iff.2 ⟨by omega,by omega⟩
 rw [h1]
 show ((48+(n:Int))-48,(0:Int))=_
 congr 1
 omega
theorem rop_pr_n (ls:List Bs) {v:Int} (h0 : -1000000000≤v) (h7:v≤1000000000):rop ls 110 (prW 110 v)=(v,0):=by
 show ropN (prW 110 v)=_
 have e:prW 110 v=Lib.itoa v:=rfl
 unfold ropN
 rw [e,rnum_can ⟨rfl,h0,h7⟩]
 rfl
theorem rop_pr_t (ls:List Bs) {n:Nat} (hn:n≤1000) (ht:rtarget ls (lname n)=((n:Int),true)):rop ls 116 (prW 116 n)=((n:Int),0):=by
 show ropT ls (lname n)=_
 unfold ropT
 rw [lname_name hn,ht];rfl
def AllAt (l:List Ins) (ls:List Bs):Prop:=∀ n:Nat,n≤l.length→isT l n=true→rtarget ls (lname n)=((n:Int),true)
theorem rop_pr {l:List Ins} {ls:List Bs} (hl:l.length≤1000) (hA:AllAt l ls) {c:UInt8} {v:Int} (hc:c=114∨c=110∨c=116) (hm:mayV (some c) l.length v=true) (hT:c=116→isT l v=true):rop ls c (prW c v)=(v,0):=by
 unfold mayV lim at hm
 rcases hc with rfl|rfl|rfl
 ·obtain ⟨h0,h7⟩:=inn_iff.1 hm
  exact rop_pr_r ls h0 h7
 ·obtain ⟨h0,h7⟩:=inn_iff.1 hm
  exact rop_pr_n ls h0 h7
 ·obtain ⟨h0,h7⟩:=inn_iff.1 hm
  have h0:0≤v:=h0
  have h7:v≤(l.length:Int):=h7
  obtain ⟨n,rfl⟩:∃ n:Nat,v=n:=⟨v.toNat,by omega⟩
  exact rop_pr_t ls (by omega) (hA n (by omega) (hT rfl))
theorem mayI_op {n:Nat} {i:Ins} (h:mayI n i=true):∃ k:Nat,k < 27∧i.op=k:=by
 unfold mayI at h
 rw [Bool.and_eq_true] at h
 obtain ⟨h1,h2⟩:=inn_iff.1 h.1
 exact ⟨i.op.toNat,by omega,by omega⟩
theorem mayI_val {n:Nat} {i:Ins} (h:mayI n i=true):mayV (kdO i.op.toNat)[0]? n i.a=true∧mayV (kdO i.op.toNat)[1]? n i.b=true∧mayV (kdO i.op.toNat)[2]? n i.c=true:=by
 unfold mayI at h
 simp only [Bool.and_eq_true] at h
 exact ⟨h.2.1,h.2.2.1,h.2.2.2⟩
theorem mayV_none {n:Nat} {v:Int} (h:mayV none n v=true):v=0:=by
 obtain ⟨h1,h2⟩:=inn_iff.1 h
 have h1:0≤v:=h1
 have h2:v≤0:=h2
 omega
theorem prL_ok {l:List Ins} {ls:List Bs} (hl:l.length≤1000) (hA:AllAt l ls) {i:Ins} (hi:i∈l) (hm:mayI l.length i=true):LineOk ls (prL i) i.op.toNat (List.zipWith prW (kdO i.op.toNat) (vals3 i))∧insOf ls i.op.toNat (List.zipWith prW (kdO i.op.toNat) (vals3 i))=i:=by
 obtain ⟨k,hk,hop⟩:=mayI_op hm
 have hko:i.op.toNat=k:=by omega
 obtain ⟨ma,mb,mc⟩:=mayI_val hm
 have hkl:=prL_words (i:=i) (by omega)
 have hko':=hko
 rw [hko] at ma mb mc hkl ⊢
 obtain ⟨hlen,hall⟩:=kd_of k hk
 have hkd:kdO k=(at' opsT (k:Int)).2:=rfl
 have hwl:(List.zipWith prW (kdO k) (vals3 i)).length=(kdO k).length:=by
  rw [List.length_zipWith]
  show min (kdO k).length 3=_
  omega
 have hv:∀ q,q < (kdO k).length→∃ v,(vals3 i)[q]? = some v∧mayV (kdO k)[q]? l.length v=true:=fun q hq=>by
  match q,hq with
  | 0,_=>exact ⟨_,rfl,ma⟩
  | 1,_=>exact ⟨_,rfl,mb⟩
  | 2,_=>exact ⟨_,rfl,mc⟩
  | q+3,hq=>omega
 have hrop:∀ q,q < (kdO k).length→rop ls ((kdO k).getD q 0) ((List.zipWith prW (kdO k) (vals3 i)).getD q [])=((vals3 i).getD q 0,0):=fun q hq=>by
  obtain ⟨v,h1,h2⟩:=hv q hq
  have hc:(kdO k)[q]? = some (kdO k)[q]:=List.getElem?_eq_getElem hq
  have e1:(kdO k).getD q 0=(kdO k)[q]:=by simp [List.getD,hc]
  have e2:(vals3 i).getD q 0=v:=by simp [List.getD,h1]
  have e3:(List.zipWith prW (kdO k) (vals3 i)).getD q []=prW (kdO k)[q] v:=by
   simp [List.getD,List.getElem?_zipWith,hc,h1]
  rw [e1,e2,e3]
  rw [hc] at h2
  have hcc:(kdO k)[q]=114∨(kdO k)[q]=110∨(kdO k)[q]=116:=by
   have:=List.all_eq_true.1 hall _ (List.getElem_mem hq)
   simpa using this
  refine rop_pr hl hA hcc h2 fun hc6=>?_
  unfold isT
  rw [List.any_eq_true]
  refine ⟨i,hi,?_⟩
  unfold hasT
  rw [List.any_eq_true]
  refine ⟨((kdO k)[q],v),?_,by simp [hc6]⟩
  rw [hko']
  exact List.mem_of_getElem? (i:=q) (by rw [List.getElem?_zip_eq_some];exact ⟨hc,h1⟩)
 have hz:∀ q,q < (kdO k).length→(rop ls ((kdO k).getD q 0) ((List.zipWith prW (kdO k) (vals3 i)).getD q [])).2=0:=fun q hq=>by rw [hrop q hq]
 refine ⟨⟨hk,⟨nm k,hkl,(nm_wch k hk).2.2⟩,hwl,hz⟩,?_⟩
 have hg:∀ q,(rAll ls (kdO k) (List.zipWith prW (kdO k) (vals3 i))).1.getD q 0=cond (decide (q < (kdO k).length)) ((vals3 i).getD q 0) 0:=fun q=>by
  rw [rAll_get hwl hz]
  by_cases hq:q < (kdO k).length
  ·rw [hrop q hq]
  ·rw [decide_eq_false hq];rfl
 have fin:∀ q v,(vals3 i).getD q 0=v→(mayV (kdO k)[q]? l.length v=true)→(rAll ls (kdO k) (List.zipWith prW (kdO k) (vals3 i))).1.getD q 0=v:=fun q v h1 h2=>by
  rw [hg]
  by_cases hq:q < (kdO k).length
  ·rw [decide_eq_true hq];exact h1
  ·rw [decide_eq_false hq]
   rw [List.getElem?_eq_none (by omega)] at h2
   exact (mayV_none h2).symm
 unfold insOf
 rw [←hkd,fin 0 i.a rfl ma,fin 1 i.b rfl mb,fin 2 i.c rfl mc,←hop]
end Go.AL
end
section
set_option maxRecDepth 100000
namespace Go.AL
open Go Go.Proofs
attribute [local irreducible] J
def look2 (m:Mp) (w:Bs):Int × Int:=match m.lookup w with|some n=>(n,0)|none=>(0,8)
def whereP (s w:Bs):Int × Int:=cond (decide ((parseP s).2.2=0)) (look2 (labels s) w) (0,(parseP s).2.2)
theorem where_ok (g:Gl) (s w:Bs) (hs:s.length≤1000000):ACalls Tryz.prog 123 [sv s,sv w] (gls g) (one (.tup [iv (whereP s w).1,iv (whereP s w).2]) (gls g)):=by
 have hp:=parse_ok g s hs
 have hl:=labels_ok s hs
 have hf:=encM_find (labels s) w
 have hks:=encM_keys (labels s)
 unfold whereP look2
 generalize parseP s=r at *
 obtain ⟨r1,r2,r3⟩:=r
 simp only at hp ⊢
 by_cases h0:r3=0
 ·subst h0
  simp only [decide_true,cond_true]
  cases hlk:(labels s).lookup w with
  | none =>
   rw [hlk] at hf
   simp only [Option.map_none] at hf
   refine jC Tryz.func123 Tryz.ntmps123 (fun w0 β0 ext hβ=>?_)
   repeat (first|refine jS ?_|refine jD ?_|refine jB ?_)
   refine jBb [0,1,2,3] hp ?_
   repeat (first|refine jS ?_|refine jD ?_|refine jB ?_)
   refine jBb [] hl ?_
   repeat (first|refine jS ?_|refine jD ?_|refine jB ?_|refine jo rfl rfl (map_get rfl rfl rfl rfl rfl rfl rfl rfl rfl trivial hks hf rfl) rfl rfl ?_)
   exact jR
  | some n =>
   rw [hlk] at hf
   simp only [Option.map_some] at hf
   refine jC Tryz.func123 Tryz.ntmps123 (fun w0 β0 ext hβ=>?_)
   repeat (first|refine jS ?_|refine jD ?_|refine jB ?_)
   refine jBb [0,1,2,3] hp ?_
   repeat (first|refine jS ?_|refine jD ?_|refine jB ?_)
   refine jBb [] hl ?_
   repeat (first|refine jS ?_|refine jD ?_|refine jB ?_|refine jo rfl rfl (map_get rfl rfl rfl rfl rfl rfl rfl rfl rfl trivial hks hf rfl) rfl rfl ?_)
   exact jR
 ·rw [decide_eq_false h0]
  have e1:(r3 != 0)=true:=by simpa using h0
  refine jC Tryz.func123 Tryz.ntmps123 (fun w0 β0 ext hβ=>?_)
  repeat (first|refine jS ?_|refine jD ?_|refine jB ?_)
  refine jBb [0,1,2,3] hp ?_
  repeat (first|refine jS ?_|refine jD ?_|refine jB ?_)
  rw [e1]
  repeat (first|refine jS ?_|refine jD ?_|refine jB ?_)
  exact jR
def rwhere (s w:Bs):Int × Int:=cond (rtarget (rsplit 10 s) w).2 ((rtarget (rsplit 10 s) w).1,0) (0,8)
theorem rwhere_ok (s w:Bs) (hs:s.length≤900000) (hw:w.length≤1000000):ACalls Tryz.prog 158 [sv s,sv w] [] (one (.tup [iv (rwhere s w).1,iv (rwhere s w).2]) []):=by
 have hsp:=rsplit_ok s 10 hs
 have hlen:=rsplit_len 10 s
 have hall:(rsplit 10 s).length≤900001:=by
  have:=(spSt_le 10 s s.length).2
  unfold rsplit
  simp
  omega
 have ht:=rtarget_ok (rsplit 10 s) w hw (by omega) (fun l hm=>by have:=hlen l hm;omega)
 unfold rwhere
 generalize rtarget (rsplit 10 s) w=t at *
 obtain ⟨n,b⟩:=t
 simp only at ht ⊢
 cases b
 all_goals refine jC Tryz.func158 Tryz.ntmps158 (fun w0 β0 ext hβ=>?_)
 all_goals (
  repeat (first|refine jS ?_|refine jD ?_|refine jB ?_|refine jV hsp ?_|refine jV ht ?_)
 )
 all_goals exact jR
theorem where_eq (s w:Bs):whereP s w=cond (decide ((rparse s).2.2=0)) (rwhere s w) (0,(rparse s).2.2):=by
 unfold whereP
 rw [parse_eq]
 by_cases h0:(rparse s).2.2=0
 ·rw [decide_eq_true h0]
  simp only [cond_true]
  obtain ⟨x,hs,hc,hx⟩:=lines_split s
  have hx0:x=[]:=by
   unfold rparse at h0
   by_cases h4:s.length > 40000
   ·rw [decide_eq_true h4] at h0;exact absurd h0 (by simp)
   ·rw [decide_eq_false h4] at h0
    simp only [cond_false] at h0
    have hlx:(rsplit 10 s).getLast? = some x:=by rw [hs];simp
    cases hb:bad1 (rpE (rlines s)) (rlines s).length with
    | some k =>
     rw [hb] at h0
     exact absurd h0 ((bad1_inv.2 k hb).2.2)
    | none =>
     rw [hb,hlx] at h0
     by_cases hx1:x=[]
     ·exact hx1
     ·rw [decide_eq_false (by simpa using hx1)] at h0
      exact absurd h0 (by simp)
  unfold look2 rwhere rtarget
  rw [labels_look,hs,hx0,List.findIdx?_append]
  have hno:([([]:Bs)].findIdx? fun l=>decide (l=w++[58]))=none:=by
   simp [List.findIdx?_cons]
  rw [hno]
  cases hf:(rlines s).findIdx? (fun l=>decide (l=w++[58])) with
  | none=>simp
  | some i =>
   have hi:i < (rlines s).length:=by
    have:=List.findIdx?_eq_some_iff_getElem.1 hf
    obtain ⟨h,_⟩:=this
    exact h
   simp only [Option.map_some,Option.orElse_some,cond_true,Option.some_or]
   have:nl (rlines s++[[]]) i=nl (rlines s) i:=by
    unfold nl
    rw [List.take_append_of_le_length (by omega)]
   simp [this]
 ·rw [decide_eq_false h0];rfl
end Go.AL
end
section
set_option maxRecDepth 100000
namespace Go.AL
open Go Go.Proofs Go.RowKit
theorem cc_used (b:Nat) (w:World) (h0:w.cell? ⟨b,0,none⟩=some (.pointer (some ⟨b,0,none⟩))) :
  Calls Tryz.prog 80 #[.pointer (some ⟨b,0,none⟩)] w fun e w'=>e = .returned (.tuple #[])∧w'=w:=by
 obtain ⟨j,hj,_⟩:=Option.map_eq_some_iff.1 (show (Tryz.prog.info? 86).map (·.size)=some 2 by kernel_rfl)
 go_enter Tryz.func80,Tryz.ntmps80
 go_wp2
 rw [Lib.run_neq_ptr_same w _ Tryz.underlying83 hj]
 go_wp2
 go_end0
 exact ⟨rfl,rfl⟩
end Go.AL
end
section
set_option maxRecDepth 100000
namespace Go.AL
open Go Go.Proofs
attribute [local irreducible] J
def adr (u:Bool):AVal:=cond u (.ptr 0 0) (.v (.pointer none))
theorem encB_elems (l:Bs):ElemsOk 1 (l.map encB):=elems_map l fun x=>⟨rfl,rfl⟩
theorem plainI (x:Value):∀ c c' u,Rel c (.v x) u→Rel c' (.v x) u:=fun _ _ _ h=>h
theorem plainT (x y:Value):∀ c c' u,Rel c (.tup [.v x,.v y]) u→Rel c' (.tup [.v x,.v y]) u:=fun c c' u ⟨a,h1,p,r,e,hp,q,r2,e2,hq,e3⟩=>⟨a,h1,p,r,e,hp,q,r2,e2,hq,e3⟩
theorem freeze_size (w:World) (a:Addr) (n:Nat):(w.freeze a n).heap.size=w.heap.size:=by
 unfold World.freeze;split<;>simp
theorem freeze_other (w:World) (a:Addr) (n:Nat) {c:Nat} (h:c≠a.block):(w.freeze a n).heap[c]? = w.heap[c]?:=by
 unfold World.freeze
 split
 ·rfl
 ·simp only [Array.getElem?_modify]
  rw [if_neg (fun e=>h e.symm)]
end Go.AL
end
section
set_option maxRecDepth 100000
namespace Go.AL
open Go Go.Proofs
def ltx (ls:List Bs):Bs:=ls.flatMap (· ++ [10])
theorem ltx_app (a b:List Bs):ltx (a++b)=ltx a++ltx b:=by simp [ltx]
theorem ltx_cons (a:Bs) (b:List Bs):ltx (a::b)=a++[10]++ltx b:=by simp [ltx]
theorem rsplit_ltx {ls:List Bs} (h:∀ l∈ls,(10:UInt8) ∉ l):rsplit 10 (ltx ls)=ls++[[]]:=by
 rw [rsplit_eq];exact cuts_lines 10 ls h
theorem rlines_ltx {ls:List Bs} (h:∀ l∈ls,(10:UInt8) ∉ l):rlines (ltx ls)=ls:=by
 unfold rlines;rw [rsplit_ltx h];simp
def LnOk (ls:List Bs) (l:Bs):Option Ins→Prop
 | none=>rlab l=true∧rname l.dropLast=true
 | some i=>rlab l=false∧∃ k ws,LineOk ls l k ws∧insOf ls k ws=i
theorem lines_state (x:List (Bs × Option Ins)) (h:∀ y∈x,LnOk (x.map (·.1)) y.1 y.2) (hd:((x.map (·.1)).filter fun l=>rlab l).Nodup) (hc:(x.filterMap (·.2)).length≤1000) :
  ∀ k,k≤x.length→rpSt (x.map (·.1)) k=(x.take k).filterMap (·.2)∧∀ q,q < k→rpE (x.map (·.1)) q=0
 | 0,_=>⟨by simp [rpSt],fun q hq=>absurd hq (by omega)⟩
 | k+1,hk=>by
  obtain ⟨i1,i2⟩:=lines_state x h hd hc k (by omega)
  have hk2:k < x.length:=by omega
  have hkl:k < (x.map (·.1)).length:=by rw [List.length_map];exact hk2
  have hat:(x.map (·.1))[k]=x[k].1:=by simp
  have hs:=rpSt_succ hkl
  have ht:(x.take (k+1)).filterMap (·.2)=(x.take k).filterMap (·.2)++(match x[k].2 with|none=>[]|some i=>[i]):=by
   rw [List.take_succ_eq_append_getElem hk2,List.filterMap_append]
   congr 1
   cases e:x[k].2<;>simp [e]
  have hlk:=h x[k] (List.getElem_mem hk2)
  rw [hat] at hs
  have hE:rpE (x.map (·.1)) k=cond (rlab x[k].1) (cond (rname x[k].1.dropLast) (cond (((x.map (·.1)).take k).any fun l=>decide (l=x[k].1)) 11 0) 12) (rinstr (x.map (·.1)) x[k].1 (rpSt (x.map (·.1)) k).length).2:=by
   unfold rpE
   rw [getD_at hkl,hat]
  have hnext:rpE (x.map (·.1)) k=0→∀ q,q < k+1→rpE (x.map (·.1)) q=0:=fun h0 q hq=>by
   by_cases e:q=k
   ·subst e;exact h0
   ·exact i2 q (by omega)
  cases e:x[k].2 with
  | none =>
   rw [e] at hlk ht
   obtain ⟨l1,l2⟩:=hlk
   rw [l1] at hs hE
   rw [l2] at hE
   simp only [cond_true] at hs hE
   refine ⟨by rw [hs,ht,i1];simp,hnext ?_⟩
   rw [hE]
   have hno:((x.map (·.1)).take k).any (fun l=>decide (l=x[k].1))=false:=by
    rw [List.any_eq_false]
    intro l hl e2
    have e2:=of_decide_eq_true e2
    subst e2
    have hsp:x.map (·.1)=(x.map (·.1)).take k++(x.map (·.1))[k]::(x.map (·.1)).drop (k+1):=by
     rw [←List.drop_eq_getElem_cons hkl,List.take_append_drop]
    rw [hsp,List.filter_append,hat,List.filter_cons_of_pos (by simpa using l1)] at hd
    have:=(List.nodup_append.1 hd).2.2 x[k].1 (List.mem_filter.2 ⟨hl,by simpa using l1⟩) x[k].1 (List.mem_cons_self ..)
    exact this rfl
   rw [hno];rfl
  | some i =>
   rw [e] at hlk ht
   obtain ⟨l1,kk,ws,l2,l3⟩:=hlk
   rw [l1] at hs hE
   simp only [cond_false] at hs hE
   have hlen:((x.take (k+1)).filterMap (·.2)).length≤(x.filterMap (·.2)).length:=((List.take_sublist (k+1) x).filterMap _).length_le
   have hl2:(rpSt (x.map (·.1)) k).length < 1000:=by
    rw [i1]
    rw [ht] at hlen
    simp at hlen
    omega
   have hr:=rinstr_of l2 ((rpSt (x.map (·.1)) k).length:Int)
   rw [decide_eq_false (by omega:¬((rpSt (x.map (·.1)) k).length:Int)≥1000),l3] at hr
   simp only [cond_false] at hr
   rw [hr] at hs hE
   exact ⟨by rw [hs,ht,i1],hnext hE⟩
theorem of_lines (x:List (Bs × Option Ins)) (h:∀ y∈x,LnOk (x.map (·.1)) y.1 y.2) (hd:((x.map (·.1)).filter fun l=>rlab l).Nodup) (hn:∀ l∈x.map (·.1),(10:UInt8) ∉ l)
  (hl:(ltx (x.map (·.1))).length≤40000) (hc:(x.filterMap (·.2)).length≤1000):rparse (ltx (x.map (·.1)))=(x.filterMap (·.2),0,0):=by
 obtain ⟨h1,h2⟩:=lines_state x h hd hc x.length (Nat.le_refl _)
 rw [List.take_length] at h1
 have hll:(x.map (·.1)).length=x.length:=List.length_map _
 unfold rparse
 rw [decide_eq_false (by omega:¬(ltx (x.map (·.1))).length > 40000),rlines_ltx hn,rsplit_ltx hn,hll,bad1_none h2]
 simp only [cond_false]
 rw [h1]
 simp
theorem nlA (A:List Bs):nl A A.length=((A.filter fun l=>!rlab l).length:Nat):=by unfold nl;rw [List.take_length]
theorem rtarget_at (A B:List Bs) (w:Bs) (h:w++[58] ∉ A):rtarget (A++(w++[58])::B) w=(((A.filter fun l=>!rlab l).length:Int),true):=by
 have h0:A.findIdx? (fun l=>decide (l=w++[58]))=none:=by
  rw [List.findIdx?_eq_none_iff]
  intro x hx
  exact decide_eq_false fun e=>h (e ▸ hx)
 unfold rtarget
 rw [List.findIdx?_append,h0,List.findIdx?_cons]
 simp only [decide_true,if_true,Option.map_some,Option.none_or,Nat.zero_add]
 rw [nl_left A _ (Nat.le_refl _),nlA]
theorem where_ltx {ls:List Bs} (hn:∀ l∈ls,(10:UInt8) ∉ l) (hp:(rparse (ltx ls)).2.2=0) {w:Bs} {p:Int} (ht:rtarget ls w=(p,true)):whereP (ltx ls) w=(p,0):=by
 rw [where_eq,hp]
 unfold rwhere
 rw [rsplit_ltx hn,tgt_l [[]] (by rw [ht]),ht];rfl
theorem tgt_pre {l1:List Bs} (l2:List Bs) {w:Bs} {p:Int} (h:rtarget l1 w=(p,true)):rtarget (l1++l2) w=(p,true):=by
 rw [tgt_l l2 (by rw [h]),h]
def tgD (tg:List (Bs × Int)) (s:Bs):Int × Int:=match tg.lookup s with|some p=>(p,0)|none=>(0,11)
def ropD (tg:List (Bs × Int)) (k:UInt8) (s:Bs):Int × Int:=cond (decide (k=114)) (rdR s) (cond (decide (k=110)) (ropN s) (cond (rname s) (tgD tg s) (0,3)))
def tgOk (ls:List Bs) (tg:List (Bs × Int)):Prop:=∀ w p,tg.lookup w=some p→rtarget ls w=(p,true)
theorem tgOk_of {ls:List Bs} {tg:List (Bs × Int)} (h:∀ y∈tg,rtarget ls y.1=(y.2,true)):tgOk ls tg:=fun w p hw=>by
 induction tg with
 | nil=>cases hw
 | cons y ys ih =>
  rw [List.lookup_cons] at hw
  split at hw
  ·rename_i he
   have e1:w=y.1:=by simpa using he
   injection hw with e2
   rw [e1,←e2]
   exact h y (List.mem_cons_self ..)
  ·exact ih (fun z hz=>h z (List.mem_cons_of_mem _ hz)) hw
theorem ropD_ok {ls:List Bs} {tg:List (Bs × Int)} (h:tgOk ls tg) {k:UInt8} {s:Bs} (h0:(ropD tg k s).2=0):rop ls k s=ropD tg k s:=by
 unfold ropD at h0 ⊢
 unfold rop ropT
 cases h1:decide (k=114) with
 | true=>rfl
 | false =>
  cases h2:decide (k=110) with
  | true=>rfl
  | false =>
   rw [h1,h2] at h0
   cases h3:rname s with
   | false=>rfl
   | true =>
    rw [h3] at h0
    simp only [cond_false,cond_true] at h0 ⊢
    unfold tgD at h0 ⊢
    cases h4:tg.lookup s with
    | none=>rw [h4] at h0;cases h0
    | some p=>rw [h _ _ h4];rfl
def allD (tg:List (Bs × Int)):Bs→List Bs→Option (List Int)
 | [],[]=>some []
 | c::cs,w::ws=>cond (decide ((ropD tg c w).2=0)) ((allD tg cs ws).map ((ropD tg c w).1 :: ·)) none
 | _,_=>none
theorem allD_ok {ls:List Bs} {tg:List (Bs × Int)} (h:tgOk ls tg):∀ (kd:Bs) (ws:List Bs) (vs:List Int),allD tg kd ws=some vs →
  ws.length=kd.length∧(∀ q,q < kd.length→(rop ls (kd.getD q 0) (ws.getD q [])).2=0)∧(rAll ls kd ws).1=vs
 | [],[],vs,e=>by
  cases e
  exact ⟨rfl,fun q hq=>absurd hq (by simp),by simp [rAll]⟩
 | [],_::_,vs,e=>by cases e
 | _::_,[],vs,e=>by cases e
 | c::cs,w::ws,vs,e=>by
  unfold allD at e
  cases h1:decide ((ropD tg c w).2=0) with
  | false=>rw [h1] at e;cases e
  | true =>
   rw [h1] at e
   simp only [cond_true] at e
   have h1:=of_decide_eq_true h1
   have hr:=ropD_ok h h1
   cases h2:allD tg cs ws with
   | none=>rw [h2] at e;cases e
   | some us =>
    rw [h2] at e
    simp only [Option.map_some,Option.some.injEq] at e
    subst e
    obtain ⟨k1,k2,k3⟩:=allD_ok h cs ws us h2
    refine ⟨by simp [k1],fun q hq=>?_,?_⟩
    ·cases q with
     | zero=>show (rop ls c w).2=0;rw [hr];exact h1
     | succ q=>exact k2 q (by simpa using hq)
    ·unfold rAll
     rw [hr,decide_eq_true h1,k3];rfl
def lineD (tg:List (Bs × Int)) (l:Bs):Option Ins :=
 match rsplit 32 l with
 | []=>none
 | w::ws=>cond (decide (0≤findOp w)&&decide ((findOp w).toNat < 27))
   ((allD tg (at' opsT (((findOp w).toNat:Nat):Int)).2 ws).map fun vs=>⟨(((findOp w).toNat:Nat):Int),vs.getD 0 0,vs.getD 1 0,vs.getD 2 0⟩) none
def lnD (tg:List (Bs × Int)) (l:Bs):Option (Option Ins):=cond (rlab l) (cond (rname l.dropLast) (some none) none) ((lineD tg l).map some)
theorem lnD_ok {ls:List Bs} {tg:List (Bs × Int)} (h:tgOk ls tg) {l:Bs} {o:Option Ins} (e:lnD tg l=some o):LnOk ls l o:=by
 unfold lnD at e
 cases h1:rlab l with
 | true =>
  rw [h1] at e
  cases h2:rname l.dropLast with
  | false=>rw [h2] at e;cases e
  | true =>
   rw [h2] at e
   cases e
   exact ⟨h1,h2⟩
 | false =>
  rw [h1] at e
  simp only [cond_false] at e
  unfold lineD at e
  cases h2:rsplit 32 l with
  | nil=>rw [h2] at e;cases e
  | cons w ws =>
   rw [h2] at e
   simp only at e
   cases h3:decide (0≤findOp w)&&decide ((findOp w).toNat < 27) with
   | false=>rw [h3] at e;cases e
   | true =>
    rw [h3] at e
    simp only [cond_true] at e
    rw [Bool.and_eq_true] at h3
    have h4:=of_decide_eq_true h3.1
    have h5:=of_decide_eq_true h3.2
    have hk:findOp w=(((findOp w).toNat:Nat):Int):=by omega
    generalize (findOp w).toNat=k at *
    cases h6:allD tg (at' opsT (k:Int)).2 ws with
    | none=>rw [h6] at e;cases e
    | some vs =>
     rw [h6] at e
     simp only [Option.map_some,Option.some.injEq] at e
     subst e
     obtain ⟨k1,k2,k3⟩:=allD_ok h _ _ _ h6
     refine ⟨h1,k,ws,⟨h5,⟨w,h2,hk⟩,k1,k2⟩,?_⟩
     unfold insOf
     rw [k3]
def blk (tg:List (Bs × Int)) (C:List Bs):List (Bs × Option Ins):=C.map fun l=>(l,(lnD tg l).getD none)
theorem blk_ok {ls:List Bs} {tg:List (Bs × Int)} (h:tgOk ls tg) {C:List Bs} (hC:(C.all fun l=>(lnD tg l).isSome)=true):∀ y∈blk tg C,LnOk ls y.1 y.2:=fun y hy=>by
 obtain ⟨l,hl,rfl⟩:=List.mem_map.1 hy
 have:=List.all_eq_true.1 hC l hl
 cases e:lnD tg l with
 | none=>rw [e] at this;cases this
 | some o =>
  simp only [e,Option.getD_some]
  exact lnD_ok h e
theorem blk_lines (tg:List (Bs × Int)) (C:List Bs):(blk tg C).map (·.1)=C:=by
 unfold blk
 rw [List.map_map]
 exact List.map_id'' (fun _=>rfl) C
theorem pr_ok (ls:List Bs) {i:Ins} (hm:mayI 1000 i=true) (ht:(kdO i.op.toNat).all (fun c=>!decide (c=116))=true):LnOk ls (prL i) (some i):=by
 obtain ⟨k,hk,hop⟩:=mayI_op hm
 have hko:i.op.toNat=k:=by omega
 refine ⟨prL_lab (by omega),_,_,prL_ok (l:=List.replicate 1000 i) (ls:=ls) (by simp) (fun n hn hT=>?_) (List.mem_replicate.2 ⟨by decide,rfl⟩) (by rw [List.length_replicate];exact hm)⟩
 exfalso
 unfold isT at hT
 obtain ⟨j,hj,hT⟩:=List.any_eq_true.1 hT
 rw [List.eq_of_mem_replicate hj] at hT
 unfold hasT at hT
 obtain ⟨p,hp,hT⟩:=List.any_eq_true.1 hT
 have h1:=List.all_eq_true.1 ht p.1 (List.of_mem_zip hp).1
 simp at h1 hT
 exact h1 hT.1
end Go.AL
end
section
set_option maxRecDepth 100000
namespace Go.AL
open Go Go.Proofs
theorem rop_may {ls:List Bs} {c:UInt8} {s:Bs} {N:Nat} (hN:nl ls ls.length=(N:Int)) (hc:c=114∨c=110∨c=116) (h:(rop ls c s).2=0):mayV (some c) N (rop ls c s).1=true:=by
 unfold mayV
 refine inn_iff.2 ?_
 rcases hc with rfl|rfl|rfl
 ·show (0:Int)≤(rdR s).1∧(rdR s).1≤7
  have h:(rdR s).2=0:=h
  rcases s with _|⟨a,_|⟨b,_|⟨c,t⟩⟩⟩
  ·exact absurd (show (3:Int)=0 from h) (by decide)
  ·exact absurd (show (3:Int)=0 from h) (by decide)
  ·have e0:rdR [a,b]=cond (decide (a.toNat=114)) (cond (inn b.toNat 48 55) ((b.toNat:Int)-48,0) (0,3)) (0,3):=rfl
   rw [e0] at h ⊢
   cases h1:decide (a.toNat=114) with
   | false=>rw [h1] at h;exact absurd (show (3:Int)=0 from h) (by decide)
   | true =>
    rw [h1] at h
    cases h2:inn b.toNat 48 55 with
    | false=>rw [h2] at h;exact absurd (show (3:Int)=0 from h) (by decide)
    | true =>
     obtain ⟨k1,k2⟩:=inn_iff.1 h2
     simp only [cond_true]
     exact ⟨by omega,by omega⟩
  ·exact absurd (show (3:Int)=0 from h) (by decide)
 ·show (-1000000000:Int)≤(ropN s).1∧(ropN s).1≤1000000000
  exact ropN_bd s
 ·show (0:Int)≤(ropT ls s).1∧(ropT ls s).1≤(N:Int)
  unfold ropT
  cases rname s
  ·exact ⟨Int.le_refl 0,by simp⟩
  ·unfold rtarget
   cases hf:ls.findIdx? (fun l=>decide (l=s++[58])) with
   | none=>exact ⟨Int.le_refl 0,by simp⟩
   | some i =>
    obtain ⟨hi,_⟩:=List.findIdx?_eq_some_iff_getElem.1 hf
    have h1:=nl_le ls i
    have h2:=nl_mono ls (show i≤ls.length by omega)
    simp only [cond_true]
    exact ⟨h1.1,by omega⟩
theorem insOf_may {ls:List Bs} {l:Bs} {k:Nat} {ws:List Bs} {N:Nat} (hN:nl ls ls.length=(N:Int)) (h:LineOk ls l k ws):mayI N (insOf ls k ws)=true:=by
 obtain ⟨hk,hw,hln,ha⟩:=h
 have hkd:=(kd_of k hk).2
 have hg:∀ q,mayV (kdO k)[q]? N ((rAll ls (at' opsT (k:Int)).2 ws).1.getD q 0)=true:=fun q=>by
  rw [rAll_get hln ha]
  by_cases hq:q < (at' opsT (k:Int)).2.length
  ·rw [decide_eq_true hq]
   have hq2:q < (kdO k).length:=hq
   rw [List.getElem?_eq_getElem hq2]
   have hm:=List.all_eq_true.1 hkd _ (List.getElem_mem hq2)
   have he:(at' opsT (k:Int)).2.getD q 0=(kdO k)[q]:=by
    show (kdO k).getD q 0=_
    simp [List.getD,hq2]
   rw [he]
   have ha:=ha q hq
   rw [he] at ha
   refine rop_may hN ?_ ha
   simpa using hm
  ·rw [decide_eq_false hq]
   have hq2:(kdO k).length≤q:=by
    have:¬q < (kdO k).length:=hq
    omega
   rw [List.getElem?_eq_none hq2]
   rfl
 unfold mayI insOf
 simp only
 have e:((k:Int)).toNat=k:=by omega
 rw [e,hg 0,hg 1,hg 2,inn_iff.2 (show (0:Int)≤(k:Int)∧(k:Int)≤26 from ⟨by omega,by omega⟩)]
 rfl
theorem rpSt_may {ls:List Bs} {N:Nat} (hN:nl ls ls.length=(N:Int)) (hz:∀ q,q < ls.length→rpE ls q=0):∀ k,k≤ls.length→(rpSt ls k).length≤1000∧∀ i∈rpSt ls k,mayI N i=true
 | 0,_=>⟨by simp [rpSt],fun i h=>absurd h (by simp [rpSt])⟩
 | k+1,hk=>by
  have hk2:k < ls.length:=by omega
  obtain ⟨i1,i2⟩:=rpSt_may hN hz k (by omega)
  have hE:=hz k hk2
  unfold rpE at hE
  rw [getD_at hk2] at hE
  rw [rpSt_succ hk2]
  cases hr:rlab ls[k] with
  | true=>exact ⟨i1,i2⟩
  | false =>
   rw [hr] at hE
   simp only [cond_false] at hE ⊢
   obtain ⟨kk,ws,hL,hn,e⟩:=rinstr_inv hE
   rw [e]
   refine ⟨by simp;omega,fun i h=>?_⟩
   rcases List.mem_append.1 h with h|h
   ·exact i2 i h
   ·rw [List.mem_singleton.1 h]
    exact insOf_may hN hL
theorem parse_right {s:Bs} (h:(rparse s).2.2=0):rightC (rparse s).1=true:=by
 obtain ⟨h1,h2,h3,h4⟩:=rparse_good h
 rw [h4]
 have hN:=(rpSt_nl (rlines s) _ (Nat.le_refl _)).symm
 obtain ⟨k1,k2⟩:=rpSt_may hN h3 _ (Nat.le_refl _)
 unfold rightC
 rw [decide_eq_true k1,Bool.true_and,List.all_eq_true]
 exact k2
theorem where_right {s w:Bs} (h:(rparse s).2.2=0):0≤(rwhere s w).1∧(rwhere s w).1≤(rparse s).1.length:=by
 obtain ⟨h1,h2,h3,h4⟩:=rparse_good h
 rw [h4]
 unfold rwhere
 rw [h2]
 cases hb:(rtarget (rlines s++[[]]) w).2 with
 | false=>exact ⟨Int.le_refl 0,by simp⟩
 | true =>
  simp only [cond_true]
  have hN:=rpSt_nl (rlines s) _ (Nat.le_refl _)
  unfold rtarget at hb ⊢
  cases hf:(rlines s++[[]]).findIdx? (fun l=>decide (l=w++[58])) with
  | none=>rw [hf] at hb;cases hb
  | some i =>
   obtain ⟨hi,hi2,_⟩:=List.findIdx?_eq_some_iff_getElem.1 hf
   simp only
   rw [hN]
   have hil:i≤(rlines s).length:=by simp at hi;omega
   rw [nl_left _ _ hil]
   have:=nl_le (rlines s) i
   have:=nl_mono (rlines s) hil
   omega
end Go.AL
end
section
set_option maxRecDepth 100000
namespace Go.AL
open Go Go.Proofs
def setK (k:Int):Bs:=[115,101,116,32,114,49,32]++Lib.itoa k
def kH:List Bs:=[[104,97,108,116]]
theorem setK_pr (k:Int):setK k=prL ⟨1,1,k,0⟩:=by
 unfold setK prL
 show _=_++((32::prW 114 1)++((32::prW 110 k)++[]))
 show _=nm 1++((32::prW 114 1)++((32::(pfx 110++Lib.itoa k))++[]))
 rw [show nm 1=[115,101,116] by decide +kernel,show prW 114 1=[114,49] by decide +kernel,show pfx 110=[] from rfl]
 simp
theorem setK_ok (ls:List Bs) {k:Int} (h:bd k):LnOk ls (setK k) (some ⟨1,1,k,0⟩):=by
 rw [setK_pr]
 refine pr_ok ls ?_ (show ((kdO 1).all fun c=>!decide (c=116))=true by decide)
 unfold mayI
 rw [show inn (1:Int) 0 26=true by decide]
 simp only
 rw [show mayV (kdO (1:Int).toNat)[0]? 1000 1=true by decide,show mayV (kdO (1:Int).toNat)[2]? 1000 0=true by decide]
 show (true&&(true&&(inn k (-1000000000) 1000000000&&true)))=true
 rw [inn_iff.2 h];rfl
theorem setK_lab (k:Int):rlab (setK k)=false:=by rw [setK_pr];exact prL_lab (show (1:Int).toNat < 27 by decide)
theorem setK_no (k:Int):(10:UInt8) ∉ setK k:=by rw [setK_pr];exact prL_no (show (1:Int).toNat < 27 by decide) (by decide) (by decide)
theorem setK_len {k:Int} (h:bd k):(setK k).length≤18:=by
 have:=itoa_len h
 unfold setK
 simp
 omega
theorem blk_mem {ls:List Bs} {tg:List (Bs × Int)} (h:tgOk ls tg) {C D:List Bs} (hC:(D.all fun l=>(lnD tg l).isSome)=true) (hs:∀ l∈C,l∈D):∀ y∈blk tg C,LnOk ls y.1 y.2 :=
 blk_ok h (List.all_eq_true.2 fun l hl=>List.all_eq_true.1 hC l (hs l hl))
theorem flatL {α:Type} (f:α→List Bs) (n:Nat):∀ (l:List α),(∀ x∈l,(ltx (f x)).length≤n)→(ltx (l.flatMap f)).length≤n*l.length
 | [],_=>by simp [ltx]
 | x::xs,h=>by
  have:=flatL f n xs fun y hy=>h y (List.mem_cons_of_mem _ hy)
  have h1:=h x (List.mem_cons_self ..)
  rw [List.flatMap_cons,ltx_app,List.length_append,List.length_cons,Nat.mul_add]
  omega
theorem flatC {α β γ:Type} (f:α→List β) (g:β→Option γ) (n:Nat):∀ (l:List α),(∀ x∈l,((f x).filterMap g).length≤n)→((l.flatMap f).filterMap g).length≤n*l.length
 | [],_=>by simp
 | x::xs,h=>by
  have:=flatC f g n xs fun y hy=>h y (List.mem_cons_of_mem _ hy)
  have h1:=h x (List.mem_cons_self ..)
  rw [List.flatMap_cons,List.filterMap_append,List.length_append,List.length_cons,Nat.mul_add]
  omega
end Go.AL
end
section
set_option maxRecDepth 100000
namespace Go.AL
open Go Go.Proofs
def spC:List Bs:=[[108,111,99,107,58],[115,101,116,32,114,49,32,48],[115,101,116,32,114,50,32,49],[99,97,115,32,114,49,32,114,48,32,114,50],[122,101,114,111,32,114,49,32,108,111,99,107,101,100],[119,97,105,116,32,114,49,32,114,48],[106,117,109,112,32,108,111,99,107],[108,111,99,107,101,100,58],[114,101,116],[117,110,108,111,99,107,58],[115,101,116,32,114,49,32,48],[120,99,104,103,32,114,49,32,114,48],[114,101,116]]
def tname (i:Nat):Bs:=116::Lib.itoa i
def tlab (i:Nat):Bs:=tname i++[58]
theorem tname_inj {m n:Nat} (h:tname m=tname n):m=n:=by
 refine lname_inj ?_
 unfold tname at h
 unfold lname
 injection h with h1 h2
 rw [h2]
theorem tlab_inj {m n:Nat} (h:tlab m=tlab n):m=n:=tname_inj (List.append_cancel_right h)
theorem tname_wch (n:Nat):(tname n).all wch=true:=by
 have:=lname_wch n
 unfold lname at this
 unfold tname
 simp only [List.all_cons,Bool.and_eq_true] at this ⊢
 exact ⟨by decide,this.2⟩
theorem tname_name {n:Nat} (h:n≤1000):rname (tname n)=true:=by
 have:=lname_name h
 unfold lname rname at this
 unfold tname rname
 simp only [List.all_cons,Bool.and_eq_true] at this ⊢
 obtain ⟨⟨⟨h1,h2⟩,h3⟩,h4,h5⟩:=this
 exact ⟨⟨⟨h1,by decide⟩,by decide⟩,by decide,h5⟩
theorem tname_len {n:Nat} (h:n≤1000000000):(tname n).length≤12:=by
 have:=itoa_len (v:=(n:Int)) ⟨by omega,by omega⟩
 unfold tname
 simp
 omega
end Go.AL
end
section
set_option maxRecDepth 100000
namespace Go.AL
open Go Go.Proofs
structure Dd where
 kind:Int
 at_:Int
 value:Int
 deriving DecidableEq,Inhabited
def ur1:List Bs:=[[114,108,111,99,107,58],[115,101,108,102,32,114,49],[97,100,100,32,114,49,32,114,49,32,114,48],[108,111,97,100,32,114,50,32,114,49,32,51],[109,97,115,107,32,114,51,32,114,50,32,54,51],[115,111,109,101,32,114,51,32,110,101,115,116,101,100],[108,111,97,100,32,114,50,32,114,48,32,48],[115,116,111,114,101,32,114,50,32,114,49,32,51],[102,101,110,99,101],[114,101,116],[110,101,115,116,101,100,58],[112,108,117,115,32,114,50,32,114,50,32,49],[115,116,111,114,101,32,114,50,32,114,49,32,51],[114,101,116],[114,117,110,108,111,99,107,58],[115,101,108,102,32,114,49],[97,100,100,32,114,49,32,114,49,32,114,48],[108,111,97,100,32,114,50,32,114,49,32,51],[112,108,117,115,32,114,50,32,114,50,32,45,49],[115,116,111,114,101,32,114,50,32,114,49,32,51],[114,101,116],[115,121,110,99,58],[109,111,118,101,32,114,52,32,114,48],[112,108,117,115,32,114,48,32,114,52,32,49],[99,97,108,108,32,108,111,99,107],[102,101,110,99,101],[115,101,116,32,114,53,32,50],[102,108,105,112,58],[108,111,97,100,32,114,49,32,114,52,32,48],[115,101,116,32,114,50,32,54,52],[120,111,114,32,114,49,32,114,49,32,114,50],[115,116,111,114,101,32,114,49,32,114,52,32,48],[102,101,110,99,101],[108,111,97,100,32,114,54,32,114,52,32,50],[101,97,99,104,58],[122,101,114,111,32,114,54,32,112,97,115,115,101,100],[112,108,117,115,32,114,54,32,114,54,32,45,49],[97,100,100,32,114,55,32,114,52,32,114,54],[108,111,111,107,58],[108,111,97,100,32,114,49,32,114,55,32,51],[109,97,115,107,32,114,50,32,114,49,32,54,51],[122,101,114,111,32,114,50,32,101,97,99,104],[108,111,97,100,32,114,50,32,114,52,32,48],[120,111,114,32,114,50,32,114,50,32,114,49],[109,97,115,107,32,114,50,32,114,50,32,54,52],[122,101,114,111,32,114,50,32,101,97,99,104],[112,108,117,115,32,114,50,32,114,55,32,51],[119,97,105,116,32,114,49,32,114,50],[106,117,109,112,32,108,111,111,107],[112,97,115,115,101,100,58],[112,108,117,115,32,114,53,32,114,53,32,45,49],[115,111,109,101,32,114,53,32,102,108,105,112],[102,101,110,99,101],[112,108,117,115,32,114,48,32,114,52,32,49],[99,97,108,108,32,117,110,108,111,99,107],[114,101,116]]
def ur2:List Bs:=[[114,108,111,99,107,58],[115,101,108,102,32,114,49],[97,100,100,32,114,49,32,114,49,32,114,48],[108,111,97,100,32,114,50,32,114,49,32,51],[109,97,115,107,32,114,51,32,114,50,32,54,51],[115,111,109,101,32,114,51,32,110,101,115,116,101,100],[108,111,97,100,32,114,50,32,114,48,32,48],[115,116,111,114,101,32,114,50,32,114,49,32,51],[114,101,116],[110,101,115,116,101,100,58],[112,108,117,115,32,114,50,32,114,50,32,49],[115,116,111,114,101,32,114,50,32,114,49,32,51],[114,101,116],[114,117,110,108,111,99,107,58],[115,101,108,102,32,114,49],[97,100,100,32,114,49,32,114,49,32,114,48],[108,111,97,100,32,114,50,32,114,49,32,51],[112,108,117,115,32,114,50,32,114,50,32,45,49],[115,116,111,114,101,32,114,50,32,114,49,32,51],[114,101,116],[115,121,110,99,58],[109,111,118,101,32,114,52,32,114,48],[112,108,117,115,32,114,48,32,114,52,32,49],[99,97,108,108,32,108,111,99,107],[98,114,111,97,100],[115,101,116,32,114,53,32,50],[102,108,105,112,58],[108,111,97,100,32,114,49,32,114,52,32,48],[115,101,116,32,114,50,32,54,52],[120,111,114,32,114,49,32,114,49,32,114,50],[115,116,111,114,101,32,114,49,32,114,52,32,48],[98,114,111,97,100],[108,111,97,100,32,114,54,32,114,52,32,50],[101,97,99,104,58],[122,101,114,111,32,114,54,32,112,97,115,115,101,100],[112,108,117,115,32,114,54,32,114,54,32,45,49],[97,100,100,32,114,55,32,114,52,32,114,54],[108,111,111,107,58],[108,111,97,100,32,114,49,32,114,55,32,51],[109,97,115,107,32,114,50,32,114,49,32,54,51],[122,101,114,111,32,114,50,32,101,97,99,104],[108,111,97,100,32,114,50,32,114,52,32,48],[120,111,114,32,114,50,32,114,50,32,114,49],[109,97,115,107,32,114,50,32,114,50,32,54,52],[122,101,114,111,32,114,50,32,101,97,99,104],[112,108,117,115,32,114,50,32,114,55,32,51],[119,97,105,116,32,114,49,32,114,50],[106,117,109,112,32,108,111,111,107],[112,97,115,115,101,100,58],[112,108,117,115,32,114,53,32,114,53,32,45,49],[115,111,109,101,32,114,53,32,102,108,105,112],[98,114,111,97,100],[112,108,117,115,32,114,48,32,114,52,32,49],[99,97,108,108,32,117,110,108,111,99,107],[114,101,116]]
def urC (b:Bool):List Bs:=cond b ur2 ur1
def urTg (b:Bool):List (Bs × Int):=cond b [([108,111,99,107],0),([108,111,99,107,101,100],6),([117,110,108,111,99,107],7),([114,108,111,99,107],10),([110,101,115,116,101,100],18),([114,117,110,108,111,99,107],21),([115,121,110,99],27),([102,108,105,112],32),([101,97,99,104],38),([108,111,111,107],41),([112,97,115,115,101,100],51)] [([108,111,99,107],0),([108,111,99,107,101,100],6),([117,110,108,111,99,107],7),([114,108,111,99,107],10),([110,101,115,116,101,100],19),([114,117,110,108,111,99,107],22),([115,121,110,99],28),([102,108,105,112],33),([101,97,99,104],39),([108,111,111,107],42),([112,97,115,115,101,100],52)]
def dd0:List Bs:=[[115,101,116,32,114,48,32,49],[99,97,108,108,32,114,108,111,99,107],[109,97,114,107,32,50]]
def dd1:List Bs:=[[109,97,114,107,32,51],[115,101,116,32,114,48,32,49],[99,97,108,108,32,114,117,110,108,111,99,107]]
def dd2:List Bs:=[[109,97,114,107,32,52],[115,101,116,32,114,48,32,49],[99,97,108,108,32,115,121,110,99],[109,97,114,107,32,53]]
def dd3:List Bs:=[[108,111,97,100,32,114,48,32,114,49,32,48],[109,97,114,107,32,54]]
def dd4:List Bs:=[[115,116,111,114,101,32,114,48,32,114,49,32,48],[109,97,114,107,32,55]]
def urX:List Bs:=dd0++(dd1++(dd2++(dd3++(dd4++kH))))
def setV (v:Int):Bs:=[115,101,116,32,114,48,32]++Lib.itoa v
theorem setV_pr (k:Int):setV k=prL ⟨1,0,k,0⟩:=by
 unfold setV prL
 show _=_++((32::prW 114 0)++((32::prW 110 k)++[]))
 show _=nm 1++((32::prW 114 0)++((32::(pfx 110++Lib.itoa k))++[]))
 rw [show nm 1=[115,101,116] by decide +kernel,show prW 114 0=[114,48] by decide +kernel,show pfx 110=[] from rfl]
 simp
theorem setV_ok (ls:List Bs) {k:Int} (h:bd k):LnOk ls (setV k) (some ⟨1,0,k,0⟩):=by
 rw [setV_pr]
 refine pr_ok ls ?_ (show ((kdO 1).all fun c=>!decide (c=116))=true by decide)
 unfold mayI
 rw [show inn (1:Int) 0 26=true by decide]
 simp only
 rw [show mayV (kdO (1:Int).toNat)[0]? 1000 0=true by decide,show mayV (kdO (1:Int).toNat)[2]? 1000 0=true by decide]
 show (true&&(true&&(inn k (-1000000000) 1000000000&&true)))=true
 rw [inn_iff.2 h];rfl
theorem setV_lab (k:Int):rlab (setV k)=false:=by rw [setV_pr];exact prL_lab (show (1:Int).toNat < 27 by decide)
theorem setV_no (k:Int):(10:UInt8) ∉ setV k:=by rw [setV_pr];exact prL_no (show (1:Int).toNat < 27 by decide) (by decide) (by decide)
theorem setV_len {k:Int} (h:bd k):(setV k).length≤18:=by
 have:=itoa_len h
 unfold setV
 simp
 omega
def ddLn (d:Dd) (cell:Int):List Bs:=match d.kind with
 | 0=>dd0
 | 1=>dd1
 | 2=>dd2
 | 3=>setK cell::dd3
 | _=>setV d.value::setK cell::dd4
def ddIt (b:Bool) (d:Dd) (cell:Int):List (Bs × Option Ins):=match d.kind with
 | 0=>blk (urTg b) dd0
 | 1=>blk (urTg b) dd1
 | 2=>blk (urTg b) dd2
 | 3=>(setK cell,some ⟨1,1,cell,0⟩)::blk (urTg b) dd3
 | _=>(setV d.value,some ⟨1,0,d.value,0⟩)::(setK cell,some ⟨1,1,cell,0⟩)::blk (urTg b) dd4
def pthLn (n i:Nat) (l:List Dd):List Bs:=tlab i::((l.flatMap fun d=>ddLn d (4+n+d.at_))++kH)
def pthIt (b:Bool) (n i:Nat) (l:List Dd):List (Bs × Option Ins):=(tlab i,none)::((l.flatMap fun d=>ddIt b d (4+n+d.at_))++blk (urTg b) kH)
def urThr (n:Nat) (ps:List (List Dd)) (k:Nat):List Bs:=(ps.zipIdx k).flatMap fun p=>pthLn n p.2 p.1
def urPre (b:Bool):List Bs:=spC++urC b
def urLn (b:Bool) (ps:List (List Dd)):List Bs:=urPre b++urThr ps.length ps 0
def urIt (b:Bool) (ps:List (List Dd)):List (Bs × Option Ins):=blk (urTg b) (urPre b)++ps.zipIdx.flatMap fun p=>pthIt b ps.length p.2 p.1
def urCode (b:Bool) (ps:List (List Dd)):List Ins:=(urIt b ps).filterMap (·.2)
theorem ddIt_ln (b:Bool) (d:Dd) (c:Int):(ddIt b d c).map (·.1)=ddLn d c:=by
 unfold ddIt ddLn
 split<;>simp only [List.map_cons,blk_lines]
theorem pthIt_ln (b:Bool) (n i:Nat) (l:List Dd):(pthIt b n i l).map (·.1)=pthLn n i l:=by
 unfold pthIt pthLn
 simp only [List.map_append,List.map_cons,blk_lines,List.map_flatMap,ddIt_ln]
theorem urIt_ln (b:Bool) (ps:List (List Dd)):(urIt b ps).map (·.1)=urLn b ps:=by
 unfold urIt urLn urThr
 simp only [List.map_append,blk_lines,List.map_flatMap,pthIt_ln]
theorem ur_all (b:Bool):((urPre b++urX).all fun l=>(lnD (urTg b) l).isSome)=true:=by cases b<;>decide +kernel
theorem ur_tg (b:Bool) (X:List Bs):tgOk (urPre b++X) (urTg b):=by
 refine tgOk_of fun y hy=>tgt_pre _ ?_
 revert y
 cases b<;>decide +kernel
structure DdB (n:Nat) (d:Dd):Prop where
 val:bd d.value
 cell:bd (4+n+d.at_)
theorem dd_ok (b:Bool) (X:List Bs) {n:Nat} {d:Dd} (h:DdB n d):∀ y∈ddIt b d (4+n+d.at_),LnOk (urPre b++X) y.1 y.2:=fun y hy=>by
 have ht:=ur_tg b X
 have hx:∀ {C:List Bs},(∀ l∈C,l∈urX)→∀ y∈blk (urTg b) C,LnOk (urPre b++X) y.1 y.2:=fun hC=>blk_mem ht (ur_all b) fun l hl=>List.mem_append_right _ (hC l hl)
 unfold ddIt at hy
 split at hy
 ·exact hx (fun l hl=>by unfold urX;simp [hl]) y hy
 ·exact hx (fun l hl=>by unfold urX;simp [hl]) y hy
 ·exact hx (fun l hl=>by unfold urX;simp [hl]) y hy
 ·rcases List.mem_cons.1 hy with rfl|hy
  ·exact setK_ok _ h.cell
  ·exact hx (fun l hl=>by unfold urX;simp [hl]) y hy
 ·rcases List.mem_cons.1 hy with rfl|hy
  ·exact setV_ok _ h.val
  rcases List.mem_cons.1 hy with rfl|hy
  ·exact setK_ok _ h.cell
  ·exact hx (fun l hl=>by unfold urX;simp [hl]) y hy
theorem pth_ok (b:Bool) (X:List Bs) {n i:Nat} (h:i≤1000) {l:List Dd} (hl:∀ d∈l,DdB n d):∀ y∈pthIt b n i l,LnOk (urPre b++X) y.1 y.2:=fun y hy=>by
 unfold pthIt at hy
 rcases List.mem_cons.1 hy with rfl|h1
 ·refine ⟨rlab_end _,?_⟩
  show rname (tname i++[58]).dropLast=true
  rw [List.dropLast_concat]
  exact tname_name h
 rcases List.mem_append.1 h1 with h1|h1
 ·obtain ⟨d,hd,hy⟩:=List.mem_flatMap.1 h1
  exact dd_ok b X (hl d hd) y hy
 ·exact blk_mem (ur_tg b X) (ur_all b) (fun l hl=>List.mem_append_right _ (by unfold urX;simp [hl])) y h1
theorem zipP_lt {ps:List (List Dd)} {p:List Dd × Nat} {k:Nat} (h:p∈ps.zipIdx k):p.2 < k+ps.length:=by
 obtain ⟨h1,h2,_⟩:=List.mem_zipIdx h
 omega
structure PlB (ps:List (List Dd)):Prop where
 len:ps.length≤8
 few:∀ l∈ps,l.length≤8
 dd:∀ l∈ps,∀ d∈l,DdB ps.length d
theorem urIt_ok (b:Bool) {ps:List (List Dd)} (h:PlB ps):∀ y∈urIt b ps,LnOk (urLn b ps) y.1 y.2:=fun y hy=>by
 unfold urIt at hy
 rcases List.mem_append.1 hy with h1|h1
 ·exact blk_mem (ur_tg b _) (ur_all b) (fun l hl=>List.mem_append_left _ hl) y h1
 ·obtain ⟨p,hp,hy⟩:=List.mem_flatMap.1 h1
  have:=zipP_lt hp
  have:=h.len
  exact pth_ok b _ (by omega) (h.dd _ (List.fst_mem_of_mem_zipIdx hp)) y hy
theorem dd_lab (d:Dd) (c:Int):(ddLn d c).filter (fun l=>rlab l)=[]:=by
 unfold ddLn
 split
 ·decide +kernel
 ·decide +kernel
 ·decide +kernel
 ·rw [List.filter_cons_of_neg (by rw [setK_lab];decide)];decide +kernel
 ·rw [List.filter_cons_of_neg (by rw [setV_lab];decide),List.filter_cons_of_neg (by rw [setK_lab];decide)];decide +kernel
theorem pth_lab (n i:Nat) (l:List Dd):(pthLn n i l).filter (fun l=>rlab l)=[tlab i]:=by
 unfold pthLn
 rw [List.filter_cons_of_pos (by exact rlab_end _),List.filter_append,List.filter_flatMap]
 rw [show kH.filter (fun l=>rlab l)=[] by decide +kernel]
 congr 1
 rw [List.append_nil]
 exact List.flatMap_eq_nil_iff.2 fun d hd=>dd_lab d _
theorem urThr_lab (n:Nat) (ps:List (List Dd)) (k:Nat):(urThr n ps k).filter (fun l=>rlab l)=(List.range' k ps.length).map tlab:=by
 unfold urThr
 rw [List.filter_flatMap]
 have:(fun p:List Dd × Nat=>(pthLn n p.2 p.1).filter (fun l=>rlab l))=fun p=>[tlab p.2]:=funext fun p=>pth_lab _ _ _
 rw [this,←List.map_eq_flatMap,←List.zipIdx_map_snd k ps,List.map_map]
 rfl
theorem urPre_lab (b:Bool):∀ l∈urPre b,∀ i,l≠tlab i:=fun l hl i e=>by
 have h1:∀ l∈urPre b,l.head? ≠ some 116:=by cases b<;>decide +kernel
 exact h1 l hl (by rw [e];rfl)
theorem ur_lab (b:Bool) (ps:List (List Dd)):((urLn b ps).filter fun l=>rlab l).Nodup:=by
 unfold urLn
 rw [List.filter_append,urThr_lab]
 refine List.nodup_append.2 ⟨by cases b<;>decide +kernel,List.pairwise_map.2 ((List.nodup_range' (s:=0) (n:=ps.length)).imp fun h e=>h (tlab_inj e)),fun a ha c hc e=>?_⟩
 obtain ⟨i,_,rfl⟩:=List.mem_map.1 hc
 exact urPre_lab b a ((List.mem_filter.1 ha).1) i e
theorem dd_no (d:Dd) (c:Int):∀ l∈ddLn d c,(10:UInt8) ∉ l:=fun l hl=>by
 have hc:∀ l∈urX,(10:UInt8) ∉ l:=by decide +kernel
 unfold ddLn at hl
 split at hl
 ·exact hc l (by unfold urX;simp [hl])
 ·exact hc l (by unfold urX;simp [hl])
 ·exact hc l (by unfold urX;simp [hl])
 ·rcases List.mem_cons.1 hl with rfl|hl
  ·exact setK_no _
  ·exact hc l (by unfold urX;simp [hl])
 ·rcases List.mem_cons.1 hl with rfl|hl
  ·exact setV_no _
  rcases List.mem_cons.1 hl with rfl|hl
  ·exact setK_no _
  ·exact hc l (by unfold urX;simp [hl])
theorem tlab_no (i:Nat):(10:UInt8) ∉ tlab i:=fun hm=>by
 rcases List.mem_append.1 hm with h2|h2
 ·exact wch_no (tname_wch i) (by decide) h2
 ·exact absurd h2 (by decide)
theorem pth_no (n i:Nat) (l:List Dd):∀ x∈pthLn n i l,(10:UInt8) ∉ x:=fun x hx=>by
 have hc:∀ l∈urX,(10:UInt8) ∉ l:=by decide +kernel
 unfold pthLn at hx
 rcases List.mem_cons.1 hx with rfl|h1
 ·exact tlab_no i
 rcases List.mem_append.1 h1 with h1|h1
 ·obtain ⟨d,_,hy⟩:=List.mem_flatMap.1 h1
  exact dd_no d _ x hy
 ·exact hc x (by unfold urX;simp [h1])
theorem urThr_no (n:Nat) (ps:List (List Dd)) (k:Nat):∀ l∈urThr n ps k,(10:UInt8) ∉ l:=fun l hl=>by
 obtain ⟨p,_,hy⟩:=List.mem_flatMap.1 hl
 exact pth_no _ _ _ l hy
theorem ur_no (b:Bool) (ps:List (List Dd)):∀ l∈urLn b ps,(10:UInt8) ∉ l:=fun l hl=>by
 unfold urLn at hl
 have hc:∀ l∈urPre b,(10:UInt8) ∉ l:=by cases b<;>decide +kernel
 rcases List.mem_append.1 hl with h1|h1
 ·exact hc l h1
 ·exact urThr_no _ ps 0 l h1
theorem ddl_len {n:Nat} {d:Dd} (h:DdB n d):(ltx (ddLn d (4+n+d.at_))).length≤60:=by
 have h1:=setK_len h.cell
 have h2:=setV_len h.val
 unfold ddLn
 split
 ·exact (by decide:(ltx dd0).length≤60)
 ·exact (by decide:(ltx dd1).length≤60)
 ·exact (by decide:(ltx dd2).length≤60)
 ·rw [ltx_cons]
  have:(ltx dd3).length=20:=by decide
  simp only [List.length_append,List.length_cons,List.length_nil];omega
 ·rw [ltx_cons,ltx_cons]
  have:(ltx dd4).length=21:=by decide
  simp only [List.length_append,List.length_cons,List.length_nil];omega
theorem pth_len {n i:Nat} {l:List Dd} (hi:i≤1000000000) (h:∀ d∈l,DdB n d) (h8:l.length≤8):(ltx (pthLn n i l)).length≤600:=by
 have h1:=tname_len hi
 have h2:=flatL (fun d:Dd=>ddLn d (4+n+d.at_)) 60 l fun d hd=>ddl_len (h d hd)
 unfold pthLn tlab
 rw [ltx_cons,ltx_app]
 simp only [List.length_append,List.length_cons,List.length_nil]
 rw [show (ltx kH).length=5 by decide]
 omega
theorem urThr_len {ps:List (List Dd)} (h:PlB ps) (k:Nat) (q:List (List Dd)) (hq:∀ l∈q,l∈ps) (hk:k+q.length≤1000000):(ltx (urThr ps.length q k)).length≤600*q.length:=by
 have:=flatL (fun p:List Dd × Nat=>pthLn ps.length p.2 p.1) 600 (q.zipIdx k) fun p hp=>pth_len (by have:=zipP_lt hp;omega) (h.dd _ (hq _ (List.fst_mem_of_mem_zipIdx hp))) (h.few _ (hq _ (List.fst_mem_of_mem_zipIdx hp)))
 rw [List.length_zipIdx] at this
 exact this
theorem ur_len (b:Bool) {ps:List (List Dd)} (h:PlB ps):(ltx (urLn b ps)).length≤7000:=by
 unfold urLn
 rw [ltx_app,List.length_append]
 have:=urThr_len h 0 ps (fun _ h=>h) (by have:=h.len;omega)
 have:(ltx (urPre b)).length≤1500:=by cases b<;>decide +kernel
 have:=h.len
 omega
theorem dd_code (b:Bool) (d:Dd) (c:Int):((ddIt b d c).filterMap (·.2)).length≤4:=by
 refine Nat.le_trans (List.length_filterMap_le _ _) ?_
 rw [←List.length_map (f:=(·.1)),ddIt_ln]
 unfold ddLn
 split
 ·decide
 ·decide
 ·decide
 ·exact (by decide:3≤4)
 ·exact (by decide:4≤4)
theorem pth_code (b:Bool) (n i:Nat) {l:List Dd} (h8:l.length≤8):((pthIt b n i l).filterMap (·.2)).length≤40:=by
 unfold pthIt
 rw [List.filterMap_cons_none rfl,List.filterMap_append,List.length_append]
 have:=flatC (fun d:Dd=>ddIt b d (4+n+d.at_)) (·.2) 4 l fun d _=>dd_code b d _
 have h2:((blk (urTg b) kH).filterMap (·.2)).length≤1:=Nat.le_trans (List.length_filterMap_le _ _) (by unfold blk;rw [List.length_map];decide)
 omega
theorem ur_code (b:Bool) {ps:List (List Dd)} (h:PlB ps):((urIt b ps).filterMap (·.2)).length≤1000:=by
 unfold urIt
 rw [List.filterMap_append,List.length_append]
 have:=flatC (fun p:List Dd × Nat=>pthIt b ps.length p.2 p.1) (·.2) 40 ps.zipIdx fun p hp=>pth_code b _ p.2 (h.few _ (List.fst_mem_of_mem_zipIdx hp))
 rw [List.length_zipIdx] at this
 have h2:((blk (urTg b) (urPre b)).filterMap (·.2)).length≤100:=Nat.le_trans (List.length_filterMap_le _ _) (by unfold blk;rw [List.length_map];cases b<;>decide)
 have:=h.len
 omega
theorem ur_parse (b:Bool) {ps:List (List Dd)} (h:PlB ps):rparse (ltx (urLn b ps))=(urCode b ps,0,0):=by
 have hlen:=ur_len b h
 have:=of_lines (urIt b ps) (by rw [urIt_ln];exact urIt_ok b h) (by rw [urIt_ln];exact ur_lab b ps) (by rw [urIt_ln];exact ur_no b ps) (by rw [urIt_ln];omega) (ur_code b h)
 rw [urIt_ln] at this
 exact this
def urAt (b:Bool) (ps:List (List Dd)) (i:Nat):Nat:=((urPre b++urThr ps.length (ps.take i) 0).filter fun l=>!rlab l).length
theorem urThr_split (n:Nat) (ps:List (List Dd)) {i:Nat} (h:i < ps.length):urThr n ps 0=urThr n (ps.take i) 0++(pthLn n i ps[i]++urThr n (ps.drop (i+1)) (i+1)):=by
 conv=>lhs;rw [←List.take_append_drop i ps,List.drop_eq_getElem_cons h]
 unfold urThr
 rw [List.zipIdx_append,List.flatMap_append,List.zipIdx_cons,List.flatMap_cons,List.length_take,Nat.min_eq_left (Nat.le_of_lt h)]
 simp
theorem ur_tgt (b:Bool) (ps:List (List Dd)) {i:Nat} (h:i < ps.length):rtarget (urLn b ps) (tname i)=((urAt b ps i:Int),true):=by
 unfold urLn
 rw [urThr_split _ ps h]
 unfold pthLn
 have:=rtarget_at (urPre b++urThr ps.length (ps.take i) 0) (((ps[i].flatMap fun d=>ddLn d (4+ps.length+d.at_))++kH)++urThr ps.length (ps.drop (i+1)) (i+1)) (tname i) (fun hm=>by
  have hf:tname i++[58]∈(urPre b++urThr ps.length (ps.take i) 0).filter (fun l=>rlab l):=List.mem_filter.2 ⟨hm,rlab_end _⟩
  rw [List.filter_append,urThr_lab] at hf
  rcases List.mem_append.1 hf with h1|h1
  ·exact urPre_lab b _ (List.mem_filter.1 h1).1 i rfl
  ·obtain ⟨j,hj,e⟩:=List.mem_map.1 h1
   have:=tlab_inj (e.trans (rfl:tname i++[58]=tlab i))
   subst this
   rw [List.length_take] at hj
   have:=List.mem_range'.1 hj
   omega)
 rw [List.append_assoc] at this
 exact this
theorem ur_where (b:Bool) {ps:List (List Dd)} (hb:PlB ps) {i:Nat} (h:i < ps.length):whereP (ltx (urLn b ps)) (tname i)=((urAt b ps i:Int),0) :=
 where_ltx (ur_no b ps) (by rw [ur_parse b hb]) (ur_tgt b ps h)
end Go.AL
end
section
set_option maxRecDepth 100000
namespace Go.AL
open Go Go.Proofs
attribute [local irreducible] J
theorem operands_ok (op a b c:Int):ACalls Tryz.prog 132 [.agg [iv op,iv a,iv b,iv c]] [] (one (.agg [iv a,iv b,iv c]) []):=by
 refine jC Tryz.func132 Tryz.ntmps132 (fun w0 β0 ext hβ=>?_)
 repeat (first|refine jS ?_|refine jD ?_|refine jB ?_)
 exact jR
def mH (l:List Ins):List AObj:=[.box 214 opsC,.box 24 [.sl (l.map encIns)]]
theorem mayR {n:Nat} {kd:Bs} {a b c:Int} :
  ((∀ p,p < 3→mayV kd[p]? n ([a,b,c].getD p 0)=true)→(mayV kd[0]? n a&&(mayV kd[1]? n b&&mayV kd[2]? n c))=true) ∧
  ∀ p,p < 3→mayV kd[p]? n ([a,b,c].getD p 0)=false→(mayV kd[0]? n a&&(mayV kd[1]? n b&&mayV kd[2]? n c))=false:=by
 refine ⟨fun h=>?_,fun p hp h=>?_⟩
 ·have h0:=h 0 (by omega);have h1:=h 1 (by omega);have h2:=h 2 (by omega)
  simp at h0 h1 h2
  rw [h0,h1,h2];rfl
 ·match p,hp with
  | 0,_=>simp at h;rw [h];rfl
  | 1,_=>simp at h;rw [h];simp
  | 2,_=>simp at h;rw [h];simp
  | p+3,hp=>omega
theorem str_idx {kd:Bs} {i:Nat} {c:UInt8} (hc:kd[i]? = some c):(⟨kd.toArray⟩:ByteArray)[((i:Int)).toNat]? = some c:=by
 have hik:i < kd.length:=(List.getElem?_eq_some_iff.1 hc).1
 have hsz:((i:Int)).toNat < (⟨kd.toArray⟩:ByteArray).size:=hik
 rw [getElem?_pos (⟨kd.toArray⟩:ByteArray) _ hsz]
 rw [List.getElem?_eq_getElem hik] at hc
 injection hc with hc
 rw [←hc];rfl
theorem may1_ok (l:List Ins) (op a b c:Int) (hl:l.length≤1000000):ACalls Tryz.prog 130 [.agg [iv op,iv a,iv b,iv c],.ptr 0 0,.ptr 1 0] (mH l) (one (bv (mayI l.length ⟨op,a,b,c⟩)) (mH l)):=by
 have h1:=in_ok op 0 26
 have h2:=operands_ok op a b c
 unfold mayI mH
 simp only
 cases hop:inn op 0 26 with
 | false =>
  rw [hop] at h1
  simp only [Bool.false_and]
  refine jC Tryz.func130 Tryz.ntmps130 (fun w0 β0 ext hβ=>?_)
  repeat (first|refine jS ?_|refine jD ?_|refine jB ?_|refine jV h1 ?_)
  exact jR
 | true =>
  rw [hop] at h1
  simp only [Bool.true_and]
  obtain ⟨ho1,ho2⟩:=inn_iff.1 hop
  obtain ⟨k,rfl⟩:∃ k:Nat,op=k:=⟨op.toNat,by omega⟩
  have hk:k < 27:=by omega
  have hkd:=ops_kind k hk
  obtain ⟨hk3,hkc⟩:=kinds_ok k hk
  rw [show ((k:Int)).toNat=k from Int.toNat_natCast k]
  unfold kdO
  generalize (at' opsT (k:Int)).2=kd at *
  obtain ⟨rt,rf⟩:=mayR (n:=l.length) (kd:=kd) (a:=a) (b:=b) (c:=c)
  generalize (mayV kd[0]? l.length a&&(mayV kd[1]? l.length b&&mayV kd[2]? l.length c))=res at *
  refine jC Tryz.func130 Tryz.ntmps130 (fun w0 β0 ext hβ=>?_)
  repeat (first|refine jS ?_|refine jD ?_|refine jB ?_|refine jV h1 ?_|refine jo rfl rfl (index_arr rfl rfl rfl rfl rfl (by omega) (by omega)) rfl rfl ?_|refine jo rfl rfl (load_dsem rfl rfl rfl hkd) rfl rfl ?_|refine jV h2 ?_)
  refine jloopI (fun q:Nat=>q≤3∧∀ p,p < q→mayV kd[p]? l.length ([a,b,c].getD p 0)=true) [3,5,20,21,1,2] (fun q=>[.ptr 2 0,sv kd,.agg [iv a,iv b,iv c],iv q,.ptr 0 0,.ptr 1 0])
   (fun _=>[.box 214 opsC,.box 24 [.sl (l.map encIns)],.box 176 [iv (k:Int),iv a,iv b,iv c]]) (fun q=>3-q) 0 ⟨by omega,fun p hp=>absurd hp (by omega)⟩ rfl rfl (fun q hq=>?_)
  obtain ⟨hq,hok⟩:=hq
  have hstep:∀ q,q < 3→(∀ p,p < q→mayV kd[p]? l.length ([a,b,c].getD p 0)=true)→mayV kd[q]? l.length ([a,b,c].getD q 0)=true→q+1≤3∧∀ p,p < q+1→mayV kd[p]? l.length ([a,b,c].getD p 0)=true:=fun q hq h1 h2=>⟨by omega,fun p hp=>by
   by_cases e:p=q
   ·rw [e];exact h2
   ·exact h1 p (by omega)⟩
  by_cases hq3:q=3
  ·subst hq3
   rw [rt hok]
   repeat (first|refine jS ?_|refine jD ?_|refine jB ?_)
   exact jR
  ·have hql:q=0∨q=1∨q=2:=by omega
   obtain ⟨v,hv⟩:∃ v,[a,b,c].getD q 0=v:=⟨_,rfl⟩
   have rf':=rf q (by omega)
   have hst:=hstep q (by omega) hok
   rw [hv] at rf' hst
   by_cases hqk:q < kd.length
   ·have hc:kd[q]? = some kd[q]:=List.getElem?_eq_getElem hqk
    have hcb:=str_idx hc
    have hcc:=hkc kd[q] (List.getElem_mem hqk)
    have hd1:decide ((q:Int) < ((ByteArray.size ⟨kd.toArray⟩:Nat):Int))=true:=decide_eq_true (by rw [show ByteArray.size ⟨kd.toArray⟩=kd.length from rfl];omega)
    rw [hc] at rf' hst
    generalize kd[q]=ch at *
    rcases hcc with rfl|rfl|rfl
    ·skip
     have h3:=in_ok v 0 7
     have e:mayV (some 114) l.length v=inn v 0 7:=rfl
     rw [e] at rf' hst
     cases hb:inn v 0 7 with
     | false =>
      rw [hb] at h3
      rw [rf' hb]
      rcases hql with rfl|rfl|rfl
      all_goals subst hv
      all_goals (
       repeat (first|refine jS ?_|refine jD ?_|refine jB ?_|refine jo rfl rfl (index_agg rfl rfl rfl rfl rfl (by omega) (by omega) rfl) rfl rfl ?_|refine jo rfl rfl (index_str rfl rfl rfl rfl (Int.natCast_nonneg _) hcb) rfl rfl ?_|refine jV h3 ?_)
      )
      all_goals rw [hd1]
      all_goals (
       repeat (first|refine jS ?_|refine jD ?_|refine jB ?_|refine jo rfl rfl (index_agg rfl rfl rfl rfl rfl (by omega) (by omega) rfl) rfl rfl ?_|refine jo rfl rfl (index_str rfl rfl rfl rfl (Int.natCast_nonneg _) hcb) rfl rfl ?_|refine jV h3 ?_)
      )
      all_goals exact jR
     | true =>
      rw [hb] at h3
      rcases hql with rfl|rfl|rfl
      all_goals subst hv
      all_goals (
       repeat (first|refine jS ?_|refine jD ?_|refine jB ?_|refine jo rfl rfl (index_agg rfl rfl rfl rfl rfl (by omega) (by omega) rfl) rfl rfl ?_|refine jo rfl rfl (index_str rfl rfl rfl rfl (Int.natCast_nonneg _) hcb) rfl rfl ?_|refine jV h3 ?_)
      )
      all_goals rw [hd1]
      all_goals (
       repeat (first|refine jS ?_|refine jD ?_|refine jB ?_|refine jo rfl rfl (index_agg rfl rfl rfl rfl rfl (by omega) (by omega) rfl) rfl rfl ?_|refine jo rfl rfl (index_str rfl rfl rfl rfl (Int.natCast_nonneg _) hcb) rfl rfl ?_|refine jV h3 ?_)
      )
      all_goals refine jnextI (_+1) (hst hb) rfl rfl (by omega)
    ·skip
     have h3:=in_ok v (-1000000000) 1000000000
     have e:mayV (some 110) l.length v=inn v (-1000000000) 1000000000:=rfl
     rw [e] at rf' hst
     cases hb:inn v (-1000000000) 1000000000 with
     | false =>
      rw [hb] at h3
      rw [rf' hb]
      rcases hql with rfl|rfl|rfl
      all_goals subst hv
      all_goals (
       repeat (first|refine jS ?_|refine jD ?_|refine jB ?_|refine jo rfl rfl (index_agg rfl rfl rfl rfl rfl (by omega) (by omega) rfl) rfl rfl ?_|refine jo rfl rfl (index_str rfl rfl rfl rfl (Int.natCast_nonneg _) hcb) rfl rfl ?_|refine jV h3 ?_)
      )
      all_goals rw [hd1]
      all_goals (
       repeat (first|refine jS ?_|refine jD ?_|refine jB ?_|refine jo rfl rfl (index_agg rfl rfl rfl rfl rfl (by omega) (by omega) rfl) rfl rfl ?_|refine jo rfl rfl (index_str rfl rfl rfl rfl (Int.natCast_nonneg _) hcb) rfl rfl ?_|refine jV h3 ?_)
      )
      all_goals exact jR
     | true =>
      rw [hb] at h3
      rcases hql with rfl|rfl|rfl
      all_goals subst hv
      all_goals (
       repeat (first|refine jS ?_|refine jD ?_|refine jB ?_|refine jo rfl rfl (index_agg rfl rfl rfl rfl rfl (by omega) (by omega) rfl) rfl rfl ?_|refine jo rfl rfl (index_str rfl rfl rfl rfl (Int.natCast_nonneg _) hcb) rfl rfl ?_|refine jV h3 ?_)
      )
      all_goals rw [hd1]
      all_goals (
       repeat (first|refine jS ?_|refine jD ?_|refine jB ?_|refine jo rfl rfl (index_agg rfl rfl rfl rfl rfl (by omega) (by omega) rfl) rfl rfl ?_|refine jo rfl rfl (index_str rfl rfl rfl rfl (Int.natCast_nonneg _) hcb) rfl rfl ?_|refine jV h3 ?_)
      )
      all_goals refine jnextI (_+1) (hst hb) rfl rfl (by omega)
    ·skip
     have h3:=in_ok v 0 ((l.map encIns).length:Int)
     have e:mayV (some 116) l.length v=inn v 0 ((l.map encIns).length:Int):=by rw [List.length_map];rfl
     rw [e] at rf' hst
     cases hb:inn v 0 ((l.map encIns).length:Int) with
     | false =>
      rw [hb] at h3
      rw [rf' hb]
      rcases hql with rfl|rfl|rfl
      all_goals subst hv
      all_goals (
       repeat (first|refine jS ?_|refine jD ?_|refine jB ?_|refine jo rfl rfl (index_agg rfl rfl rfl rfl rfl (by omega) (by omega) rfl) rfl rfl ?_|refine jo rfl rfl (index_str rfl rfl rfl rfl (Int.natCast_nonneg _) hcb) rfl rfl ?_|refine jV h3 ?_)
      )
      all_goals rw [hd1]
      all_goals (
       repeat (first|refine jS ?_|refine jD ?_|refine jB ?_|refine jo rfl rfl (index_agg rfl rfl rfl rfl rfl (by omega) (by omega) rfl) rfl rfl ?_|refine jo rfl rfl (index_str rfl rfl rfl rfl (Int.natCast_nonneg _) hcb) rfl rfl ?_|refine jV h3 ?_)
      )
      all_goals exact jR
     | true =>
      rw [hb] at h3
      rcases hql with rfl|rfl|rfl
      all_goals subst hv
      all_goals (
       repeat (first|refine jS ?_|refine jD ?_|refine jB ?_|refine jo rfl rfl (index_agg rfl rfl rfl rfl rfl (by omega) (by omega) rfl) rfl rfl ?_|refine jo rfl rfl (index_str rfl rfl rfl rfl (Int.natCast_nonneg _) hcb) rfl rfl ?_|refine jV h3 ?_)
      )
      all_goals rw [hd1]
      all_goals (
       repeat (first|refine jS ?_|refine jD ?_|refine jB ?_|refine jo rfl rfl (index_agg rfl rfl rfl rfl rfl (by omega) (by omega) rfl) rfl rfl ?_|refine jo rfl rfl (index_str rfl rfl rfl rfl (Int.natCast_nonneg _) hcb) rfl rfl ?_|refine jV h3 ?_)
      )
      all_goals refine jnextI (_+1) (hst hb) rfl rfl (by omega)
   ·have hc:kd[q]? = none:=List.getElem?_eq_none (by omega)
    have hd1:decide ((q:Int) < ((ByteArray.size ⟨kd.toArray⟩:Nat):Int))=false:=decide_eq_false (by rw [show ByteArray.size ⟨kd.toArray⟩=kd.length from rfl];omega)
    rw [hc] at rf' hst
    have h3:=in_ok v 0 0
    have e:mayV none l.length v=inn v 0 0:=rfl
    rw [e] at rf' hst
    cases hb:inn v 0 0 with
    | false =>
     rw [hb] at h3
     rw [rf' hb]
     rcases hql with rfl|rfl|rfl
     all_goals subst hv
     all_goals (
      repeat (first|refine jS ?_|refine jD ?_|refine jB ?_|refine jo rfl rfl (index_agg rfl rfl rfl rfl rfl (by omega) (by omega) rfl) rfl rfl ?_|refine jV h3 ?_)
     )
     all_goals rw [hd1]
     all_goals (
      repeat (first|refine jS ?_|refine jD ?_|refine jB ?_|refine jo rfl rfl (index_agg rfl rfl rfl rfl rfl (by omega) (by omega) rfl) rfl rfl ?_|refine jV h3 ?_)
     )
     all_goals exact jR
    | true =>
     rw [hb] at h3
     rcases hql with rfl|rfl|rfl
     all_goals subst hv
     all_goals (
      repeat (first|refine jS ?_|refine jD ?_|refine jB ?_|refine jo rfl rfl (index_agg rfl rfl rfl rfl rfl (by omega) (by omega) rfl) rfl rfl ?_|refine jV h3 ?_)
     )
     all_goals rw [hd1]
     all_goals (
      repeat (first|refine jS ?_|refine jD ?_|refine jB ?_|refine jo rfl rfl (index_agg rfl rfl rfl rfl rfl (by omega) (by omega) rfl) rfl rfl ?_|refine jV h3 ?_)
     )
     all_goals refine jnextI (_+1) (hst hb) rfl rfl (by omega)
end Go.AL
namespace Go.AL
open Go Go.Proofs
attribute [local irreducible] J
def mH2 (l:List Ins):List AObj:=[.box 214 opsC,.box 24 [.sl (l.map encIns)],.box 217 [.fn (.func 130) [] [.ptr 0 0,.ptr 1 0]]]
theorem may2_ok (l:List Ins) (i:Ins) (hl:l.length≤1000000):ACalls Tryz.prog 134 [encIns i,.ptr 2 0] (mH2 l) (one (bv (!mayI l.length i)) (mH2 l)):=by
 obtain ⟨op,a,b,c⟩:=i
 have h1:=may1_ok l op a b c hl
 unfold mH at h1
 unfold mH2 encIns
 simp only
 generalize mayI l.length ⟨op,a,b,c⟩=r at *
 refine jC Tryz.func134 Tryz.ntmps134 (fun w0 β0 ext hβ=>?_)
 repeat (first|refine jS ?_|refine jD ?_|refine jB ?_)
 refine jBb [0,1] h1 ?_
 cases r
 all_goals (
  repeat (first|refine jS ?_|refine jD ?_|refine jB ?_)
 )
 all_goals exact jR
def fidx (n:Nat) (l:List Ins):Int:=match l.findIdx? (fun i=>!mayI n i) with|some i=>i|none=>-1
theorem findex_ok (l:List Ins) (hl:l.length≤1000000):ACalls Tryz.prog 183 [.sl (l.map encIns),.fn (.func 134) [] [.ptr 2 0]] (mH2 l) (one (iv (fidx l.length l)) (mH2 l)):=by
 unfold mH2
 refine jC Tryz.func183 Tryz.ntmps183 (fun w0 β0 ext hβ=>?_)
 repeat (first|refine jS ?_|refine jD ?_|refine jB ?_)
 refine jloopI (fun k:Nat=>k≤l.length∧∀ q,q < k→mayI l.length (at' l (q:Int))=true) [0,1,8,7] (fun k=>[.sl (l.map encIns),.fn (.func 134) [] [.ptr 2 0],.v (.int .i64 (k:Int)),.v (.int .i64 ((l.map encIns).length:Int))])
  (fun _=>[.box 214 opsC,.box 24 [.sl (l.map encIns)],.box 217 [.fn (.func 130) [] [.ptr 0 0,.ptr 1 0]]]) (fun k=>l.length-k) 0 ⟨Nat.zero_le _,fun q h=>absurd h (by omega)⟩ rfl rfl (fun k hk=>?_)
 obtain ⟨hk,hok⟩:=hk
 repeat (first|refine jS ?_|refine jD ?_|refine jB ?_)
 refine jc rfl rfl rfl (fun h=>?_) (fun h=>?_)
 ·have h:=of_decide_eq_true h
  rw [List.length_map] at h
  have hk2:k < l.length:=by omega
  have hc:=may2_ok l (at' l (k:Int)) hl
  unfold mH2 at hc
  repeat (first|refine jS ?_|refine jD ?_|refine jB ?_|refine jI (Int.natCast_nonneg k) h ?_)
  refine jBb [0,1,2] hc ?_
  cases hb:mayI l.length (at' l (k:Int)) with
  | false =>
   repeat (first|refine jS ?_|refine jD ?_|refine jB ?_)
   have:fidx l.length l=(k:Int):=by
    unfold fidx
    rw [at_nat l k hk2] at hb
    rw [List.findIdx?_eq_some_iff_getElem.2 ⟨hk2,by rw [hb];rfl,fun j hj=>by
     have e2:=hok j hj
     rw [at_nat l j (by omega)] at e2
     simp [e2]⟩]
   rw [this]
   exact jR
  | true =>
   repeat (first|refine jS ?_|refine jD ?_|refine jB ?_)
   refine jnextI (k+1) ⟨by omega,fun q hq=>?_⟩ ?_ rfl (by omega)
   ·by_cases e:q=k
    ·subst e;exact hb
    ·exact hok q (by omega)
   ·show some _=some _
    rw [idx_next hk2 (by omega)]
 ·have h:=of_decide_eq_false h
  rw [List.length_map] at h
  repeat (first|refine jS ?_|refine jD ?_|refine jB ?_)
  have:fidx l.length l = -1:=by
   unfold fidx
   rw [List.findIdx?_eq_none_iff.2 fun p hp=>?_]
   obtain ⟨i,hi,rfl⟩:=List.getElem_of_mem hp
   have e2:=hok i (by omega)
   rw [at_nat l i hi] at e2
   simp [e2]
  rw [this]
  exact jR
theorem containsI_ok (l:List Ins) (hl:l.length≤1000000):ACalls Tryz.prog 133 [.sl (l.map encIns),.fn (.func 134) [] [.ptr 2 0]] (mH2 l) (one (bv (!l.all (mayI l.length))) (mH2 l)):=by
 have h1:=findex_ok l hl
 have h2:decide (fidx l.length l≥0) = !l.all (mayI l.length):=by
  unfold fidx
  cases hf:l.findIdx? (fun i=>!mayI l.length i) with
  | some i =>
   obtain ⟨hi,h3,_⟩:=List.findIdx?_eq_some_iff_getElem.1 hf
   have:l.all (mayI l.length)=false:=by
    rw [List.all_eq_false]
    exact ⟨_,List.getElem_mem hi,by simpa using h3⟩
   rw [this];simp
  | none =>
   rw [List.findIdx?_eq_none_iff] at hf
   have:l.all (mayI l.length)=true:=by
    rw [List.all_eq_true]
    intro x hx
    simpa using hf x hx
   rw [this];rfl
 unfold mH2 at *
 refine jC Tryz.func133 Tryz.ntmps133 (fun w0 β0 ext hβ=>?_)
 repeat (first|refine jS ?_|refine jD ?_|refine jB ?_)
 refine jBb [0,1,2] h1 ?_
 repeat (first|refine jS ?_|refine jD ?_|refine jB ?_)
 rw [h2]
 exact jR
theorem right_ok (l:List Ins) (hl:l.length≤1000000):ACalls Tryz.prog 86 [encIs l] [] (one (bv (rightC l)) []):=by
 have h1:=containsI_ok l hl
 have hop:=operations_ok
 unfold rightC
 unfold mH2 at h1
 unfold encIs
 have hd:decide (((l.map encIns).length:Int)≤1000)=decide (l.length≤1000):=by
  rw [List.length_map]
  by_cases h:l.length≤1000
  ·rw [decide_eq_true h,decide_eq_true (by omega)]
  ·rw [decide_eq_false h,decide_eq_false (by omega)]
 cases hb:decide (l.length≤1000) with
 | false =>
  rw [hb] at hd
  refine jC Tryz.func86 Tryz.ntmps86 (fun w0 β0 ext hβ=>?_)
  repeat (first|refine jS ?_|refine jD ?_|refine jB ?_|refine jV hop ?_)
  rw [hd]
  repeat (first|refine jS ?_|refine jD ?_|refine jB ?_)
  exact jR
 | true =>
  rw [hb] at hd
  refine jC Tryz.func86 Tryz.ntmps86 (fun w0 β0 ext hβ=>?_)
  repeat (first|refine jS ?_|refine jD ?_|refine jB ?_|refine jV hop ?_)
  rw [hd]
  repeat (first|refine jS ?_|refine jD ?_|refine jB ?_)
  refine jBb [1,0,2] h1 ?_
  cases l.all (mayI l.length)
  all_goals (
   repeat (first|refine jS ?_|refine jD ?_|refine jB ?_)
  )
  all_goals exact jR
end Go.AL
end
section
namespace Go.AL
open Go Go.Proofs
structure Mem where
 words:List Int
 tags:List Int
 deriving DecidableEq,Inhabited
structure Wput where
 loc:Int
 val:Int
 deriving DecidableEq,Inhabited
structure Tso where
 mem:Mem
 depth:Int
 bufs:List (List Wput)
 deriving DecidableEq,Inhabited
structure Frm where
 back:Int
 kept:List Int
 deriving DecidableEq,Inhabited
structure Thr where
 pc:Int
 regs:List Int
 frames:List Frm
 state:Int
 fault:Int
 left:List Int
 deriving DecidableEq,Inhabited
structure Evt where
 kind:Int
 who:Int
 words:List Int
 deriving DecidableEq,Inhabited
structure Wd where
 code:List Ins
 tso:Tso
 thr:List Thr
 evs:List Evt
def ivs (l:List Int):AVal:=.sl (l.map iv)
def g0 (l:List Int) (k:Nat):Int:=l.getD k 0
def mCells (m:Mem):List AVal:=[ivs m.words,ivs m.tags]
def encMem (m:Mem):AVal:=.agg (mCells m)
def encPut (p:Wput):AVal:=.agg [iv p.loc,iv p.val]
def encBuf (b:List Wput):AVal:=.sl (b.map encPut)
def tCells (t:Tso):List AVal:=[ivs t.mem.words,ivs t.mem.tags,iv t.depth,.sl (t.bufs.map encBuf)]
def encTso (t:Tso):AVal:=.agg (tCells t)
def encFrm (f:Frm):AVal:=.agg [iv f.back,iv (g0 f.kept 0),iv (g0 f.kept 1),iv (g0 f.kept 2),iv (g0 f.kept 3)]
def thCells (t:Thr):List AVal :=
 [iv t.pc,iv (g0 t.regs 0),iv (g0 t.regs 1),iv (g0 t.regs 2),iv (g0 t.regs 3),iv (g0 t.regs 4),iv (g0 t.regs 5),iv (g0 t.regs 6),iv (g0 t.regs 7),.sl (t.frames.map encFrm),iv t.state,iv t.fault,.slz (t.left.map iv)]
def encThr (t:Thr):AVal:=.agg (thCells t)
def encEvt (e:Evt):AVal:=.agg [iv e.kind,iv e.who,iv (g0 e.words 0),iv (g0 e.words 1),iv (g0 e.words 2),iv (g0 e.words 3)]
def wCells (w:Wd):List AVal:=[.sl (w.code.map encIns),ivs w.tso.mem.words,ivs w.tso.mem.tags,iv w.tso.depth,.sl (w.tso.bufs.map encBuf),.sl (w.thr.map encThr),.sl (w.evs.map encEvt)]
def encWd (w:Wd):AVal:=.agg (wCells w)
def mem0:Mem:=⟨[],[]⟩
def tso0:Tso:=⟨mem0,0,[]⟩
def thr0:Thr:=⟨0,[0,0,0,0,0,0,0,0],[],0,0,[]⟩
def thrE0:AVal:=.agg [iv 0,iv 0,iv 0,iv 0,iv 0,iv 0,iv 0,iv 0,iv 0,.sl [],iv 0,iv 0,.sl []]
def resThr (p:Thr × Int):AVal:=cond (decide (p.2=0)) (encThr p.1) thrE0
def wd0:Wd:=⟨[],tso0,[],[]⟩
def tagOk (t w:Int):Bool:=(decide (t=0)&&decide (w=0))||(decide (t=1)||decide (t=2))
def mRight (m:Mem):Bool:=decide (1≤m.words.length)&&(decide (m.words.length≤160)&&(decide (m.tags.length=m.words.length)&&(List.zip m.tags m.words).all fun p=>tagOk p.1 p.2))
def why (t:Int):Int:=cond (decide (t=0)) 4 (cond (decide (t=1)) 0 5)
def mUse (m:Mem) (k:Int):Int:=cond (inn k 0 (m.words.length-1)) (why (g0 m.tags k.toNat)) 3
def mLoad (m:Mem) (k:Int):Int × Int:=cond (decide (mUse m k=0)) (g0 m.words k.toNat,0) (0,mUse m k)
def mStore (m:Mem) (k v:Int):Mem × Int:=cond (decide (mUse m k=0)) (⟨m.words.set k.toNat v,m.tags⟩,0) (mem0,mUse m k)
def mkE (tag t:Int):Int:=cond (decide (tag=1)) (cond (decide (t=1)) 6 0) (why t)
def mkTags (tags:List Int) (k n:Nat) (tag:Int):List Int:=tags.take k++List.replicate n tag++tags.drop (k+n)
def mkBad (tags:List Int) (k:Nat) (tag:Int):Nat→Int
 | 0=>0
 | n+1=>cond (decide (mkBad tags k tag n=0)) (mkE tag (g0 tags (k+n))) (mkBad tags k tag n)
def mMark (m:Mem) (k n tag:Int):Mem × Int :=
 cond (decide (1≤n)&&(inn k 0 (m.words.length-1)&&decide (n≤m.words.length-k)))
  (cond (decide (mkBad m.tags k.toNat tag n.toNat=0)) (⟨m.words,mkTags m.tags k.toNat n.toNat tag⟩,0) (mem0,mkBad m.tags k.toNat tag n.toNat)) (mem0,3)
def newest (b:List Wput) (k:Int):Option Int:=(b.reverse.find? (fun p=>decide (p.loc=k))).map (·.val)
def szOk (n:Nat) (d:Int):Bool:=decide (1≤n)&&(decide (n≤8)&&inn d 0 8)
def tsRight (t:Tso):Bool:=mRight t.mem&&(szOk t.bufs.length t.depth&&t.bufs.all fun b=>decide ((b.length:Int)≤t.depth)&&b.all fun p=>inn p.loc 0 (t.mem.words.length-1))
def bufAt (t:Tso) (k:Nat):List Wput:=t.bufs.getD k []
def tsLoad (t:Tso) (k:Nat) (a:Int):Int × Int :=
 cond (decide ((mLoad t.mem a).2=0)) ((newest (bufAt t k) a).getD (mLoad t.mem a).1,0) (0,(mLoad t.mem a).2)
def tsStore (t:Tso) (k:Nat) (a v:Int):Tso × Int :=
 cond (decide ((mStore t.mem a v).2=0))
  (cond (decide (t.depth=0)) (⟨(mStore t.mem a v).1,t.depth,t.bufs⟩,0)
   (cond (decide ((bufAt t k).length=t.depth)) (tso0,7) (⟨t.mem,t.depth,t.bufs.set k (bufAt t k++[⟨a,v⟩])⟩,0)))
  (tso0,(mStore t.mem a v).2)
def become (kind w a b:Int):Int:=cond (decide (kind=0)) (cond (decide (w=a)) b w) (cond (decide (kind=1)) a (IntKind.i64.wrap (w+a)))
def tsLocked (t:Tso) (k:Nat) (kind a x y:Int):Tso × Int × Int :=
 cond (decide ((bufAt t k).length=0))
  (cond (decide ((mLoad t.mem a).2=0)) (⟨(mStore t.mem a (become kind (mLoad t.mem a).1 x y)).1,t.depth,t.bufs⟩,(mLoad t.mem a).1,0) (tso0,0,(mLoad t.mem a).2)) (tso0,0,9)
def thRight (t:Thr):Bool :=
 inn t.pc 0 1000&&(decide (t.frames.length≤6)&&(decide (t.left.length≤8)&&(t.frames.all (fun f=>inn f.back 0 1000)&&(t.left.all (fun n=>inn n 0 8) &&
  cond (decide (t.state=0)||decide (t.state=1)) (decide (t.fault=0)) (cond (decide (t.state=2)) (inn t.fault 1 16) false)))))
def frCall (t:Thr) (to:Int):Thr × Int :=
 cond (!thRight t||(decide (t.pc=1000) || !inn to 0 1000)) (thr0,1)
  (cond (decide (t.frames.length=6)) (thr0,13) ({ t with frames:=t.frames++[⟨t.pc+1,[g0 t.regs 4,g0 t.regs 5,g0 t.regs 6,g0 t.regs 7]⟩],pc:=to },0))
def frBack (t:Thr):Thr × Int :=
 cond (!thRight t) (thr0,1) (match t.frames.getLast? with
  | none=>(thr0,8)
  | some f=>({ t with frames:=t.frames.dropLast,pc:=f.back,regs:=[g0 t.regs 0,g0 t.regs 1,g0 t.regs 2,g0 t.regs 3,g0 f.kept 0,g0 f.kept 1,g0 f.kept 2,g0 f.kept 3] },0))
def rg (t:Thr) (k:Int):Int:=g0 t.regs k.toNat
def regs8 (f:Nat→Int):List Int:=[f 0,f 1,f 2,f 3,f 4,f 5,f 6,f 7]
def setR (t:Thr) (k v:Int):Thr:={ t with regs:=regs8 fun j=>cond (decide (j=k.toNat)) v (g0 t.regs j) }
def regsOf (op:Nat):Nat:=[0,1,2,2,2,3,3,3,3,3,0,1,1,0,0,1].getD op 0
def trgOf (op:Nat):Int:=[0,-1,-1,-1,-1,-1,-1,-1,-1,-1,0,1,1,0,-1,-1].getD op 0
def loMay (i:Ins):Bool :=
 ([i.a,i.b,i.c].take (regsOf i.op.toNat)).all (fun k=>inn k 0 7)&&(decide (trgOf i.op.toNat = -1)||inn (g0 [i.a,i.b,i.c] (trgOf i.op.toNat).toNat) 0 1000)
def loVal (self:Int) (i:Ins) (t:Thr):Int:=match i.op.toNat with
 | 1=>i.b
 | 2=>rg t i.b
 | 3=>IntKind.i64.wrap (rg t i.b+i.c)
 | 4=>bitsI .and .i64 (rg t i.b) i.c
 | 5=>IntKind.i64.wrap (rg t i.b+rg t i.c)
 | 6=>IntKind.i64.wrap (rg t i.b-rg t i.c)
 | 7=>bitsI .and .i64 (rg t i.b) (rg t i.c)
 | 8=>bitsI .xor .i64 (rg t i.b) (rg t i.c)
 | 9=>cond (decide (rg t i.b < rg t i.c)) 1 0
 | _=>self
def loDo (self:Int) (i:Ins) (t:Thr):Thr :=
 match i.op.toNat with
 | 10=>{ t with pc:=i.a }
 | 11=>cond (decide (rg t i.a=0)) { t with pc:=i.b } t
 | 12=>cond (decide (rg t i.a=0)) t { t with pc:=i.b }
 | _=>setR t i.a (loVal self i t)
def loReady (t:Thr) (self:Int):Int:=cond (!thRight t || !inn self 0 7) 1 (cond (!decide (t.state=0)||decide (0 < t.left.length)) 9 0)
def loApply (self:Int) (i:Ins) (t:Thr):Thr × Int :=
 cond (decide (loReady t self=1)||decide (t.pc=1000)) (thr0,1)
  (cond (!decide (loReady t self=0)) (thr0,loReady t self)
   (cond (!inn i.op 1 15) (thr0,10)
    (cond (!loMay i) (thr0,3)
     (cond (decide (i.op=13)) (frCall t i.a)
      (cond (decide (i.op=14)) (frBack t) (loDo self i { t with pc:=t.pc+1 },0))))))
def wRight (w:Wd):Bool:=rightC w.code&&(tsRight w.tso&&(decide (w.thr.length=w.tso.bufs.length)&&w.thr.all fun t=>thRight t&&(decide (t.left.length=0)||decide (t.left.length=w.thr.length))))
def thrAt (w:Wd) (k:Nat):Thr:=w.thr.getD k thr0
def instrAt (w:Wd) (t:Thr):Ins:=cond (decide (t.pc < w.code.length)) (w.code.getD t.pc.toNat default) ⟨27,0,0,0⟩
def setT (w:Wd) (k:Nat) (t:Thr):Wd:={ w with thr:=w.thr.set k t }
def faultW (w:Wd) (k:Nat) (e:Int):Wd:=setT w k { thrAt w k with state:=2,fault:=e }
def canOp (w:Wd) (k:Nat) (t:Thr) (i:Ins):Bool:=match i.op.toNat with
 | 17=>decide (((bufAt w.tso k).length:Int) < w.tso.depth)||decide (w.tso.depth=0)
 | 18=>decide ((bufAt w.tso k).length=0)
 | 19=>decide ((bufAt w.tso k).length=0)
 | 20=>decide ((bufAt w.tso k).length=0)
 | 21=>decide ((bufAt w.tso k).length=0)
 | 22=>!t.left.any fun n=>decide (n > 0)
 | 23=>decide ((bufAt w.tso k).length=0)&&(!decide ((mLoad w.tso.mem (rg t i.b)).2=0) || !decide ((mLoad w.tso.mem (rg t i.b)).1=rg t i.a))
 | _=>true
def canW (w:Wd) (k:Nat):Bool:=decide ((thrAt w k).state=0)&&canOp w k (thrAt w k) (instrAt w (thrAt w k))
def pc1 (t:Thr):Thr:={ t with pc:=t.pc+1 }
def lens (b:List (List Wput)):List Int:=b.map fun x=>(x.length:Int)
def doN (w:Wd) (k:Nat) (t:Thr) (i:Ins):Wd × Thr × Int:=match i.op.toNat with
 | 0=>(w,{ t with state:=1 },0)
 | 16=>(w,setR (pc1 t) i.a (tsLoad w.tso k (IntKind.i64.wrap (rg t i.b+i.c))).1,(tsLoad w.tso k (IntKind.i64.wrap (rg t i.b+i.c))).2)
 | 17=>({ w with tso:=(tsStore w.tso k (IntKind.i64.wrap (rg t i.b+i.c)) (rg t i.a)).1 },pc1 t,(tsStore w.tso k (IntKind.i64.wrap (rg t i.b+i.c)) (rg t i.a)).2)
 | 18=>(w,pc1 t,0)
 | 19=>({ w with tso:=(tsLocked w.tso k 0 (rg t i.b) (rg t i.a) (rg t i.c)).1 },setR (pc1 t) i.a (tsLocked w.tso k 0 (rg t i.b) (rg t i.a) (rg t i.c)).2.1,(tsLocked w.tso k 0 (rg t i.b) (rg t i.a) (rg t i.c)).2.2)
 | 20=>({ w with tso:=(tsLocked w.tso k 1 (rg t i.b) (rg t i.a) 0).1 },setR (pc1 t) i.a (tsLocked w.tso k 1 (rg t i.b) (rg t i.a) 0).2.1,(tsLocked w.tso k 1 (rg t i.b) (rg t i.a) 0).2.2)
 | 21=>({ w with tso:=(tsLocked w.tso k 2 (rg t i.b) (rg t i.a) 0).1 },setR (pc1 t) i.a (tsLocked w.tso k 2 (rg t i.b) (rg t i.a) 0).2.1,(tsLocked w.tso k 2 (rg t i.b) (rg t i.a) 0).2.2)
 | 22=>cond (decide (0 < t.left.length)) (w,{ pc1 t with left:=[] },0) (w,{ t with left:=lens w.tso.bufs },0)
 | 23=>(w,pc1 t,0)
 | 24=>({ w with tso:={ w.tso with mem:=(mMark w.tso.mem (rg t i.a) (rg t i.b) 1).1 } },pc1 t,(mMark w.tso.mem (rg t i.a) (rg t i.b) 1).2)
 | 25=>({ w with tso:={ w.tso with mem:=(mMark w.tso.mem (rg t i.a) (rg t i.b) 2).1 } },pc1 t,(mMark w.tso.mem (rg t i.a) (rg t i.b) 2).2)
 | 26=>({ w with evs:=w.evs++[⟨i.a,k,[g0 t.regs 0,g0 t.regs 1,g0 t.regs 2,g0 t.regs 3]⟩] },pc1 t,0)
 | 27=>(w,t,3)
 | _=>(w,(loApply k i t).1,(loApply k i t).2)
def doOp (w:Wd) (k:Nat) (t:Thr) (i:Ins):Wd:=cond (decide ((doN w k t i).2.2=0)) (setT (doN w k t i).1 k (doN w k t i).2.1) (faultW w k (doN w k t i).2.2)
def doW (w:Wd) (k:Nat):Wd:=doOp w k (thrAt w k) (instrAt w (thrAt w k))
def inT (w:Wd) (k:Int):Bool:=inn k 0 (w.thr.length-1)
def stepW (w:Wd) (k:Int):Wd × Int:=cond (!wRight w) (wd0,1) (cond (!inT w k) (wd0,3) (cond (!canW w k.toNat) (wd0,9) (doW w k.toNat,0)))
def waned (k:Nat) (t:Thr):Thr:=cond (decide (0 < t.left.length)) { t with left:=t.left.set k (max (g0 t.left k-1) 0) } t
def flushD (w:Wd) (k:Nat) (p:Wput) (r:List Wput):Wd :=
 let x:Wd:={ w with tso:={ w.tso with bufs:=w.tso.bufs.set k r } }
 let y:Wd:=cond (decide ((mStore w.tso.mem p.loc p.val).2=0)) { x with tso:={ x.tso with mem:=(mStore w.tso.mem p.loc p.val).1 } } (cond (decide ((thrAt w k).state=2)) x (faultW x k (mStore w.tso.mem p.loc p.val).2))
 { y with thr:=y.thr.map (waned k) }
def flushW (w:Wd) (k:Int):Wd × Int:=cond (!wRight w) (wd0,1) (cond (!inT w k) (wd0,3) (match bufAt w.tso k.toNat with
 | []=>(wd0,8)
 | p::r=>(flushD w k.toNat p r,0)))
structure Act where
 kind:Int
 who:Int
 deriving DecidableEq,Inhabited
def actW (w:Wd) (a:Act):Wd × Bool:=match a.kind with
 | 0=>cond (decide ((stepW w a.who).2=0)) ((stepW w a.who).1,true) (w,false)
 | 1=>cond (decide ((flushW w a.who).2=0)) ((flushW w a.who).1,true) (w,false)
 | _=>(w,false)
def runW (w:Wd) (l:List Act):Wd × Nat:=l.foldl (fun s a=>((actW s.1 a).1,cond (actW s.1 a).2 (s.2+1) s.2)) (w,0)
def idleW (w:Wd):Bool:=(List.range w.tso.bufs.length).all fun k=>!canW w k&&decide ((bufAt w.tso k).length=0)
def roundW (w:Wd):Wd:=(List.range w.thr.length).foldl (fun (s:Wd) (k:Nat)=>(actW (actW s ⟨0,k⟩).1 ⟨1,k⟩).1) w
def roundsW (w:Wd):Nat→Wd × Nat
 | 0=>(w,0)
 | n+1=>cond (idleW w) (w,0) ((roundsW (roundW w) n).1,(roundsW (roundW w) n).2+1)
end Go.AL
end
section
set_option maxRecDepth 100000
namespace Go.AL
open Go Go.Proofs
attribute [local irreducible] J
theorem int_beq (a b:Int):(a == b)=decide (a=b):=rfl
theorem int_bne (a b:Int):(a != b) = !decide (a=b):=rfl
theorem dec_not {p q:Prop} [Decidable p] [Decidable q] (h:p↔¬q):decide p = !decide q:=by
 rw [←decide_not];exact decide_eq_decide.2 h
theorem zipAll {a b:List Int} {p:Int→Int→Bool} (h:a.length=b.length):((∀ q,q < a.length→p (at' a (q:Int)) (at' b (q:Int))=true)→((List.zip a b).all fun x=>p x.1 x.2)=true) ∧
  ∀ q,q < a.length→p (at' a (q:Int)) (at' b (q:Int))=false→((List.zip a b).all fun x=>p x.1 x.2)=false:=by
 refine ⟨fun hq=>?_,fun q hq hp=>?_⟩
 ·rw [List.all_eq_true]
  intro x hx
  obtain ⟨i,hi,rfl⟩:=List.getElem_of_mem hx
  have hi1:i < a.length:=by rw [List.length_zip] at hi;omega
  have:=hq i hi1
  rw [at_nat a i hi1,at_nat b i (by omega)] at this
  simpa using this
 ·rw [List.all_eq_false]
  refine ⟨(a[q],b[q]'(by omega)),?_,?_⟩
  ·have:(List.zip a b)[q]'(by rw [List.length_zip];omega)=(a[q],b[q]'(by omega)):=by simp
   rw [←this]
   exact List.getElem_mem _
  ·rw [at_nat a q hq,at_nat b q (by omega)] at hp
   simp [hp]
theorem mem_right (m:Mem) (hw:m.words.length≤1000000) (ht:m.tags.length≤1000000):ACalls Tryz.prog 56 [encMem m] [] (one (bv (mRight m)) []):=by
 obtain ⟨ws,ts⟩:=m
 simp only at hw ht
 have f1:decide (((ws.map iv).length:Int) < 1) = !decide (1≤ws.length):=by rw [List.length_map];exact dec_not (by omega)
 have f2:decide (((ws.map iv).length:Int) > 160) = !decide (ws.length≤160):=by rw [List.length_map];exact dec_not (by omega)
 have f3:(((ts.map iv).length:Int) != ((ws.map iv).length:Int)) = !decide (ts.length=ws.length):=by rw [List.length_map,List.length_map,int_bne];congr 1;exact decide_eq_decide.2 (by omega)
 unfold encMem mCells ivs mRight
 simp only
 cases b1:decide (1≤ws.length) with
 | false =>
  rw [b1] at f1
  refine jC Tryz.func56 Tryz.ntmps56 (fun w0 β0 ext hβ=>?_)
  repeat (first|refine jS ?_|refine jD ?_|refine jB ?_)
  rw [f1]
  repeat (first|refine jS ?_|refine jD ?_|refine jB ?_)
  exact jR
 | true =>
  rw [b1] at f1
  cases b2:decide (ws.length≤160) with
  | false =>
   rw [b2] at f2
   refine jC Tryz.func56 Tryz.ntmps56 (fun w0 β0 ext hβ=>?_)
   repeat (first|refine jS ?_|refine jD ?_|refine jB ?_)
   rw [f1]
   repeat (first|refine jS ?_|refine jD ?_|refine jB ?_)
   rw [f2]
   repeat (first|refine jS ?_|refine jD ?_|refine jB ?_)
   exact jR
  | true =>
   rw [b2] at f2
   cases b3:decide (ts.length=ws.length) with
   | false =>
    rw [b3] at f3
    refine jC Tryz.func56 Tryz.ntmps56 (fun w0 β0 ext hβ=>?_)
    repeat (first|refine jS ?_|refine jD ?_|refine jB ?_)
    rw [f1]
    repeat (first|refine jS ?_|refine jD ?_|refine jB ?_)
    rw [f2]
    repeat (first|refine jS ?_|refine jD ?_|refine jB ?_)
    rw [f3]
    repeat (first|refine jS ?_|refine jD ?_|refine jB ?_)
    exact jR
   | true =>
    rw [b3] at f3
    have hlen:ts.length=ws.length:=of_decide_eq_true b3
    obtain ⟨hz1,hz2⟩:=zipAll (p:=tagOk) hlen
    refine jC Tryz.func56 Tryz.ntmps56 (fun w0 β0 ext hβ=>?_)
    repeat (first|refine jS ?_|refine jD ?_|refine jB ?_)
    rw [f1]
    repeat (first|refine jS ?_|refine jD ?_|refine jB ?_)
    rw [f2]
    repeat (first|refine jS ?_|refine jD ?_|refine jB ?_)
    rw [f3]
    repeat (first|refine jS ?_|refine jD ?_|refine jB ?_)
    refine jloopI (fun k:Nat=>k≤ts.length∧∀ q,q < k→tagOk (at' ts (q:Int)) (at' ws (q:Int))=true) [1,25,26,27] (fun k=>[.ptr 0 0,.sl (ts.map iv),.v (.int .i64 ((ts.map iv).length:Int)),.v (.int .i64 (k:Int))])
     (fun _=>[.box 26 [.sl (ws.map iv),.sl (ts.map iv)]]) (fun k=>ts.length-k) 0 ⟨Nat.zero_le _,fun q h=>absurd h (by omega)⟩ rfl rfl (fun k hk=>?_)
    obtain ⟨hk,hok⟩:=hk
    repeat (first|refine jS ?_|refine jD ?_|refine jB ?_)
    refine jc rfl rfl rfl (fun h=>?_) (fun h=>?_)
    ·have h:=of_decide_eq_true h
     rw [List.length_map] at h
     have hk2:k < ts.length:=by omega
     have hkw:(k:Int) < ws.length:=by omega
     have hnx:∀ (w:Int),tagOk (at' ts (k:Int)) (at' ws (k:Int))=true→∀ q,q < k+1→tagOk (at' ts (q:Int)) (at' ws (q:Int))=true:=fun _ hb q hq=>by
      by_cases e:q=k
      ·subst e;exact hb
      ·exact hok q (by omega)
     have hno:=hz2 k hk2
     repeat (first|refine jS ?_|refine jD ?_|refine jB ?_|refine jI (Int.natCast_nonneg k) h ?_)
     have hidx:IntKind.i64.wrap ((k:Int)+1)=((k+1:Nat):Int):=idx_next hk2 (by omega)
     refine jc rfl rfl rfl (fun h0=>?_) (fun h0=>?_)
     ·repeat (first|refine jS ?_|refine jD ?_|refine jB ?_|refine jI (Int.natCast_nonneg k) hkw ?_)
      refine jc rfl rfl rfl (fun h1=>?_) (fun h1=>?_)
      ·repeat (first|refine jS ?_|refine jD ?_|refine jB ?_)
       rw [hno (by simp only [beq_iff_eq,bne_iff_ne] at h0 h1;simp [tagOk,h0,h1])]
       exact jR
      ·repeat (first|refine jS ?_|refine jD ?_|refine jB ?_)
       refine jnextI (k+1) ⟨by omega,hnx 0 (by simp only [beq_iff_eq,bne_eq_false_iff_eq] at h0 h1;simp [tagOk,h0,h1])⟩ ?_ rfl (by omega)
       show some _=some _
       rw [hidx]
     ·repeat (first|refine jS ?_|refine jD ?_|refine jB ?_)
      refine jc rfl rfl rfl (fun h1=>?_) (fun h1=>?_)
      ·repeat (first|refine jS ?_|refine jD ?_|refine jB ?_)
       refine jnextI (k+1) ⟨by omega,hnx 0 (by simp only [beq_iff_eq,beq_eq_false_iff_ne] at h0 h1;simp [tagOk,h1])⟩ ?_ rfl (by omega)
       show some _=some _
       rw [hidx]
      ·repeat (first|refine jS ?_|refine jD ?_|refine jB ?_)
       refine jc rfl rfl rfl (fun h2=>?_) (fun h2=>?_)
       ·repeat (first|refine jS ?_|refine jD ?_|refine jB ?_)
        refine jnextI (k+1) ⟨by omega,hnx 0 (by simp only [beq_iff_eq,beq_eq_false_iff_ne] at h0 h1 h2;simp [tagOk,h2])⟩ ?_ rfl (by omega)
        show some _=some _
        rw [hidx]
       ·repeat (first|refine jS ?_|refine jD ?_|refine jB ?_)
        rw [hno (by simp only [beq_eq_false_iff_ne] at h0 h1 h2;simp [tagOk,h0,h1,h2])]
        exact jR
    ·have h:=of_decide_eq_false h
     rw [List.length_map] at h
     rw [hz1 fun q hq=>hok q (by omega)]
     repeat (first|refine jS ?_|refine jD ?_|refine jB ?_)
     exact jR
theorem why_ok (t:Int) (h0:0≤t) (h2:t≤2):ACalls Tryz.prog 98 [iv t] [] (one (iv (why t)) []):=by
 rcases (by omega:t=0∨t=1∨t=2) with rfl|rfl|rfl
 all_goals (
  refine jC Tryz.func98 Tryz.ntmps98 (fun w0 β0 ext hβ=>?_)
  repeat (first|refine jS ?_|refine jD ?_|refine jB ?_|refine jo rfl rfl (index_agg rfl rfl rfl rfl rfl (by decide) (by decide) rfl) rfl rfl ?_)
 )
 all_goals exact jR
theorem mRight_iff (m:Mem):mRight m=true↔1≤m.words.length∧m.words.length≤160∧m.tags.length=m.words.length∧∀ q,q < m.tags.length→tagOk (at' m.tags (q:Int)) (at' m.words (q:Int))=true:=by
 unfold mRight
 simp only [Bool.and_eq_true,decide_eq_true_eq]
 constructor
 ·rintro ⟨a,b,c,d⟩
  refine ⟨a,b,c,fun q hq=>?_⟩
  cases h:tagOk (at' m.tags (q:Int)) (at' m.words (q:Int)) with
  | true=>rfl
  | false=>rw [(zipAll (p:=tagOk) c).2 q hq h] at d;cases d
 ·rintro ⟨a,b,c,d⟩
  exact ⟨a,b,c,(zipAll (p:=tagOk) c).1 d⟩
theorem tag_bd {t w:Int} (h:tagOk t w=true):0≤t∧t≤2:=by
 unfold tagOk at h
 simp at h
 omega
theorem g0_at {l:List Int} {k:Int}:g0 l k.toNat=at' l k:=rfl
theorem use_ok (m:Mem) (k:Int) (hr:mRight m=true):ACalls Tryz.prog 101 [encMem m,iv k] [] (one (iv (mUse m k)) []):=by
 obtain ⟨r1,r2,r3,r4⟩:=(mRight_iff m).1 hr
 have h1:=mem_right m (by omega) (by omega)
 rw [hr] at h1
 obtain ⟨ws,ts⟩:=m
 simp only at r1 r2 r3 r4
 unfold mUse
 simp only
 have hi1:inn k 0 (ws.length-1)=(!decide (k < 0) && !decide (k≥((ws.map iv).length:Int))):=by
  rw [List.length_map];unfold inn;rw [Bool.eq_iff_iff];simp;omega
 unfold encMem mCells ivs at *
 refine jC Tryz.func101 Tryz.ntmps101 (fun w0 β0 ext hβ=>?_)
 repeat (first|refine jS ?_|refine jD ?_|refine jB ?_|refine jV h1 ?_)
 cases b1:decide (k < 0) with
 | true =>
  rw [b1] at hi1
  rw [hi1]
  repeat (first|refine jS ?_|refine jD ?_|refine jB ?_)
  exact jR
 | false =>
  rw [b1] at hi1
  cases b2:decide (k≥((ws.map iv).length:Int)) with
  | true =>
   rw [b2] at hi1
   rw [hi1]
   repeat (first|refine jS ?_|refine jD ?_|refine jB ?_)
   rw [b2]
   repeat (first|refine jS ?_|refine jD ?_|refine jB ?_)
   exact jR
  | false =>
   rw [b2] at hi1
   rw [hi1]
   have c1:=of_decide_eq_false b1
   have c2:=of_decide_eq_false b2
   rw [List.length_map] at c2
   obtain ⟨q,rfl⟩:∃ q:Nat,k=q:=⟨k.toNat,by omega⟩
   have hb:=tag_bd (r4 q (by omega))
   have hw:=why_ok (at' ts (q:Int)) hb.1 hb.2
   have hq0:(q:Int) < ts.length:=by omega
   repeat (first|refine jS ?_|refine jD ?_|refine jB ?_)
   rw [b2]
   repeat (first|refine jS ?_|refine jD ?_|refine jB ?_|refine jI (Int.natCast_nonneg q) hq0 ?_|refine jV hw ?_)
   exact jR
theorem put_at {α:Type} {enc:α→AVal} {l:List α} {i:Nat} {y:AVal} {v:α} (h:elemSet y 0 (enc v).cells=enc v):(l.map enc).set (i:Int).toNat (elemSet y 0 (enc v).cells)=(l.set i v).map enc:=by
 rw [h,Int.toNat_natCast,List.map_set]
theorem elems_iv (l:List Int):ElemsOk 1 (l.map iv):=by
 intro y hy
 obtain ⟨a,_,rfl⟩:=List.mem_map.1 hy
 exact ⟨rfl,rfl⟩
theorem copied_ok (l:List Int) (hl:l.length≤1000000):ACalls Tryz.prog 97 [ivs l] [] (one (.arr 0 1) [.arr 1 3 1 (l.map iv)]):=by
 unfold ivs
 refine jC Tryz.func97 Tryz.ntmps97 (fun w0 β0 ext hβ=>?_)
 repeat (first|refine jS ?_|refine jD ?_|refine jB ?_)
 refine jo rfl rfl (make_own l.length (n:=((l.map iv).length:Int)) rfl rfl (by rw [List.length_map]) rfl rfl rfl rfl rfl rfl rfl (by decide) (by omega) rfl rfl) rfl rfl ?_
 repeat (first|refine jS ?_|refine jD ?_|refine jB ?_)
 refine jo rfl rfl (copy_own rfl rfl rfl rfl rfl rfl rfl rfl (fun y hy=>by rw [List.eq_of_mem_replicate hy];exact ⟨rfl,rfl⟩) (elems_iv l) (by simp) rfl) rfl rfl ?_
 repeat (first|refine jS ?_|refine jD ?_|refine jB ?_)
 exact jret [0] true rfl rfl rfl ⟨rfl,rfl⟩
theorem load_ok (m:Mem) (k:Int) (hr:mRight m=true):ACalls Tryz.prog 154 [encMem m,iv k] [] (one (.tup [iv (mLoad m k).1,iv (mLoad m k).2]) []):=by
 have hu:=use_ok m k hr
 obtain ⟨r1,r2,r3,r4⟩:=(mRight_iff m).1 hr
 have hk:mUse m k=0→0≤k∧k < m.words.length:=fun h=>by
  unfold mUse at h
  cases hi:inn k 0 (m.words.length-1) with
  | false=>rw [hi] at h;cases h
  | true=>have:=inn_iff.1 hi;omega
 unfold mLoad
 generalize mUse m k=e at *
 obtain ⟨ws,ts⟩:=m
 simp only at r1 r2 r3 r4 hk
 unfold encMem mCells ivs at *
 simp only at hu ⊢
 have hd:(e != 0) = !decide (e=0):=rfl
 cases he:decide (e=0) with
 | false =>
  rw [he] at hd
  refine jC Tryz.func154 Tryz.ntmps154 (fun w0 β0 ext hβ=>?_)
  repeat (first|refine jS ?_|refine jD ?_|refine jB ?_|refine jV hu ?_)
  rw [hd]
  repeat (first|refine jS ?_|refine jD ?_|refine jB ?_)
  exact jR
 | true =>
  rw [he] at hd
  obtain ⟨k1,k2⟩:=hk (of_decide_eq_true he)
  refine jC Tryz.func154 Tryz.ntmps154 (fun w0 β0 ext hβ=>?_)
  repeat (first|refine jS ?_|refine jD ?_|refine jB ?_|refine jV hu ?_)
  rw [hd]
  repeat (first|refine jS ?_|refine jD ?_|refine jB ?_|refine jI k1 k2 ?_)
  exact jR
theorem store_ok (m:Mem) (k v:Int) (hr:mRight m=true):ACalls Tryz.prog 57 [encMem m,iv k,iv v] [] (one (.tup [encMem (mStore m k v).1,iv (mStore m k v).2]) []):=by
 have hu:=use_ok m k hr
 obtain ⟨r1,r2,r3,r4⟩:=(mRight_iff m).1 hr
 have hk:mUse m k=0→0≤k∧k < m.words.length:=fun h=>by
  unfold mUse at h
  cases hi:inn k 0 (m.words.length-1) with
  | false=>rw [hi] at h;cases h
  | true=>have:=inn_iff.1 hi;omega
 unfold mStore
 generalize mUse m k=e at *
 obtain ⟨ws,ts⟩:=m
 simp only at r1 r2 r3 r4 hk
 have hc:=copied_ok ws (by omega)
 unfold encMem mCells ivs at *
 simp only at hu ⊢
 have hd:(e != 0) = !decide (e=0):=rfl
 cases he:decide (e=0) with
 | false =>
  rw [he] at hd
  refine jC Tryz.func57 Tryz.ntmps57 (fun w0 β0 ext hβ=>?_)
  repeat (first|refine jS ?_|refine jD ?_|refine jB ?_|refine jV hu ?_)
  rw [hd]
  repeat (first|refine jS ?_|refine jD ?_|refine jB ?_)
  exact jR
 | true =>
  rw [he] at hd
  obtain ⟨k1,k2⟩:=hk (of_decide_eq_true he)
  obtain ⟨q,rfl⟩:∃ q:Nat,k=q:=⟨k.toNat,by omega⟩
  refine jC Tryz.func57 Tryz.ntmps57 (fun w0 β0 ext hβ=>?_)
  repeat (first|refine jS ?_|refine jD ?_|refine jB ?_|refine jV hu ?_)
  rw [hd]
  repeat (first|refine jS ?_|refine jD ?_|refine jB ?_)
  refine jBb [] hc ?_
  repeat (first|refine jS ?_|refine jD ?_|refine jB ?_)
  refine jo rfl rfl (index_own (xs:=ws.map iv) (n:=(q:Int)) rfl rfl rfl rfl rfl rfl k1 (by simp only [List.length_map];exact k2)) rfl rfl ?_
  refine jo rfl rfl (store_enc (enc:=iv) (l:=ws) (l':=ws.set q v) rfl rfl rfl (map_at (by omega)) rfl rfl rfl rfl rfl (Nat.le_of_ble_eq_true rfl) (.inr ⟨rfl,rfl⟩) (put_at (enc:=iv) rfl) rfl) rfl rfl ?_
  repeat (first|refine jS ?_|refine jD ?_|refine jB ?_)
  exact jR
theorem mkTags_len {tags:List Int} {k n:Nat} {tag:Int} (h:k+n≤tags.length):(mkTags tags k n tag).length=tags.length:=by
 unfold mkTags
 simp only [List.length_append,List.length_take,List.length_replicate,List.length_drop];omega
theorem mkTags_get {tags:List Int} {k n:Nat} {tag:Int} (h:k+n < tags.length):at' (mkTags tags k n tag) ((k+n:Nat):Int)=at' tags ((k+n:Nat):Int):=by
 rw [at_nat _ _ (by rw [mkTags_len (by omega)];exact h),at_nat _ _ h]
 unfold mkTags
 rw [List.getElem_append_right (by simp;omega)]
 simp only [List.length_append,List.length_take,List.length_replicate,List.getElem_drop]
 congr 1;omega
theorem mkTags_succ {tags:List Int} {k n:Nat} {tag:Int} (h:k+n < tags.length):(mkTags tags k n tag).set (k+n) tag=mkTags tags k (n+1) tag:=by
 unfold mkTags
 have e1:tags.drop (k+n)=tags[k+n]::tags.drop (k+n+1):=by rw [List.drop_eq_getElem_cons h]
 rw [List.set_append_right _ _ (by simp;omega),e1]
 have e2:k+n-(tags.take k++List.replicate n tag).length=0:=by simp;omega
 rw [e2,List.set_cons_zero,List.replicate_succ',List.append_assoc,List.append_assoc,List.append_assoc]
 rfl
theorem mkBad_stop {tags:List Int} {k i:Nat} {tag:Int} (h0:mkBad tags k tag i=0) (h:mkE tag (g0 tags (k+i))≠0):∀ n,mkBad tags k tag (i+1+n)=mkE tag (g0 tags (k+i))
 | 0=>by rw [Nat.add_zero,mkBad,h0];rfl
 | n+1=>by
  have ih:=mkBad_stop h0 h n
  rw [←Nat.add_assoc,mkBad,ih,decide_eq_false h];rfl
theorem mkBad_go {tags:List Int} {k i:Nat} {tag:Int} (h0:mkBad tags k tag i=0) (h:mkE tag (g0 tags (k+i))=0):mkBad tags k tag (i+1)=0:=by
 rw [mkBad,h0,h];rfl
theorem mark_ok (m:Mem) (k n tag:Int) (hr:mRight m=true) (ht:tag=1∨tag=2):ACalls Tryz.prog 52 [encMem m,iv k,iv n,iv tag] [] (one (.tup [encMem (mMark m k n tag).1,iv (mMark m k n tag).2]) []):=by
 have h1:=mem_right m (by obtain ⟨r1,r2,r3,r4⟩:=(mRight_iff m).1 hr;omega) (by obtain ⟨r1,r2,r3,r4⟩:=(mRight_iff m).1 hr;omega)
 rw [hr] at h1
 obtain ⟨r1,r2,r3,r4⟩:=(mRight_iff m).1 hr
 obtain ⟨ws,ts⟩:=m
 simp only at r1 r2 r3 r4
 have hc:=copied_ok ts (by omega)
 unfold mMark
 simp only
 unfold encMem mCells ivs at *
 simp only at h1 hc ⊢
 by_cases g:1≤n∧0≤k∧k < ws.length∧n≤ws.length-k
 ·obtain ⟨q,rfl⟩:∃ q:Nat,k=q:=⟨k.toNat,by omega⟩
  obtain ⟨n,rfl⟩:∃ p:Nat,n=p:=⟨n.toNat,by omega⟩
  have e0:(decide (1≤(n:Int))&&(inn (q:Int) 0 (ws.length-1)&&decide ((n:Int)≤ws.length-(q:Int))))=true:=by
   unfold inn;simp only [Bool.and_eq_true,decide_eq_true_eq];omega
  rw [e0]
  simp only [cond_true,Int.toNat_natCast]
  have c1:decide ((n:Int) < 1)=false:=decide_eq_false (by omega)
  have c2:decide ((q:Int) < 0)=false:=decide_eq_false (by omega)
  have c3:decide ((q:Int)≥((ws.map iv).length:Int))=false:=decide_eq_false (by rw [List.length_map];omega)
  have c4:decide ((n:Int) > IntKind.i64.wrap (((ws.map iv).length:Int)-q))=false:=decide_eq_false (by rw [List.length_map,wrap_id]<;>omega)
  have hle:q+n≤ts.length:=by omega
  have htl:ts.length≤160:=by omega
  have mk0:∀ t,mkTags ts q 0 t=ts:=fun t=>by simp [mkTags]
  rcases ht with rfl|rfl
  ·refine jC Tryz.func52 Tryz.ntmps52 (fun w0 β0 ext hβ=>?_)
   repeat (first|refine jS ?_|refine jD ?_|refine jB ?_|refine jV h1 ?_)
   rw [c1]
   repeat (first|refine jS ?_|refine jD ?_|refine jB ?_)
   rw [c2]
   repeat (first|refine jS ?_|refine jD ?_|refine jB ?_)
   rw [c3]
   repeat (first|refine jS ?_|refine jD ?_|refine jB ?_)
   rw [c4]
   repeat (first|refine jS ?_|refine jD ?_|refine jB ?_)
   refine jBb [] hc ?_
   repeat (first|refine jS ?_|refine jD ?_|refine jB ?_)
   refine jloopI (fun i:Nat=>i≤n∧mkBad ts q 1 i=0) [1,3,4,8,54,55] (fun i=>[iv (q:Int),iv 1,.ptr 0 0,.ptr 1 0,iv (n:Int),iv (i:Int)])
    (fun i=>[.box 26 [.sl (ws.map iv),.arr 2 1],.box 26 [.slf [],.slf []],.arr 1 3 1 ((mkTags ts q i 1).map iv)]) (fun i=>n-i) 0 ⟨Nat.zero_le _,rfl⟩ rfl ?_ (fun i hi=>?_)
   ·rw [mk0]
   obtain ⟨hi,hz⟩:=hi
   repeat (first|refine jS ?_|refine jD ?_|refine jB ?_)
   refine jc rfl rfl rfl (fun h=>?_) (fun h=>?_)
   ·have h:=of_decide_eq_true h
    have hi2:i < n:=by omega
    have hadd:IntKind.i64.wrap ((q:Int)+i)=((q+i:Nat):Int):=by rw [wrap_id]<;>omega
    have hidx:IntKind.i64.wrap ((i:Int)+1)=((i+1:Nat):Int):=idx_next hi2 (by omega)
    have hln:=mkTags_len (tags:=ts) (k:=q) (n:=i) (tag:=1) (by omega)
    have hgt:=mkTags_get (tags:=ts) (k:=q) (n:=i) (tag:=1) (by omega)
    have hsu:=mkTags_succ (tags:=ts) (k:=q) (n:=i) (tag:=1) (by omega)
    have hg0:g0 ts (q+i)=at' ts ((q+i:Nat):Int):=by rw [←g0_at,Int.toNat_natCast]
    have hbd:=tag_bd (r4 (q+i) (by omega))
    have hwy:=why_ok _ hbd.1 hbd.2
    have hst:=fun h=>mkBad_stop (tags:=ts) (k:=q) (tag:=1) hz h (n-(i+1))
    rw [show i+1+(n-(i+1))=n by omega,hg0] at hst
    have hgo:=fun h=>mkBad_go (tags:=ts) (k:=q) (tag:=1) hz h
    rw [hg0] at hgo
    generalize hT:at' ts ((q+i:Nat):Int)=T at *
    repeat (first|refine jS ?_|refine jD ?_|refine jB ?_)
    rw [hadd]
    refine jo rfl rfl (index_own rfl rfl rfl rfl rfl rfl (by omega) (by simp only [List.length_map];omega)) rfl rfl ?_
    refine jo rfl rfl (load_own (v:=iv T) rfl rfl (by rw [map_at (by omega),hgt]) rfl rfl rfl) rfl rfl ?_
    repeat (first|refine jS ?_|refine jD ?_|refine jB ?_|refine jV hwy ?_)
    refine jc rfl rfl rfl (fun h0=>?_) (fun h0=>?_)
    ·repeat (first|refine jS ?_|refine jD ?_|refine jB ?_)
     have hv:mkE 1 T=6:=by rw [beq_iff_eq] at h0;rw [h0];rfl
     have hB:=hst (by rw [hv];decide)
     rw [hv] at hB
     have hB0:decide (mkBad ts q 1 n=0)=false:=decide_eq_false (by rw [hB];decide)
     rw [hB0]
     simp only [cond_false]
     rw [hB]
     exact jR
    ·repeat (first|refine jS ?_|refine jD ?_|refine jB ?_|refine jV hwy ?_)
     rw [hadd]
     refine jo rfl rfl (index_own rfl rfl rfl rfl rfl rfl (by omega) (by simp only [List.length_map];omega)) rfl rfl ?_
     refine jo rfl rfl (store_enc (enc:=iv) (l:=mkTags ts q i 1) (l':=mkTags ts q (i+1) 1) rfl rfl rfl (map_at (by omega)) rfl rfl rfl rfl rfl (Nat.le_of_ble_eq_true rfl) (.inr ⟨rfl,rfl⟩) (by rw [put_at (enc:=iv) rfl,hsu]) rfl) rfl rfl ?_
     repeat (first|refine jS ?_|refine jD ?_|refine jB ?_)
     refine jnextI (i+1) ⟨by omega,hgo (by rw [beq_eq_false_iff_ne] at h0;unfold mkE;rw [decide_eq_false h0];rfl)⟩ ?_ rfl (by omega)
     show some _=some _
     rw [hidx]
     rfl
   ·have h:=of_decide_eq_false h
    have:i=n:=by omega
    subst this
    have hB0:decide (mkBad ts q 1 i=0)=true:=decide_eq_true hz
    rw [hB0]
    simp only [cond_true]
    repeat (first|refine jS ?_|refine jD ?_|refine jB ?_)
    exact jR
  ·refine jC Tryz.func52 Tryz.ntmps52 (fun w0 β0 ext hβ=>?_)
   repeat (first|refine jS ?_|refine jD ?_|refine jB ?_|refine jV h1 ?_)
   rw [c1]
   repeat (first|refine jS ?_|refine jD ?_|refine jB ?_)
   rw [c2]
   repeat (first|refine jS ?_|refine jD ?_|refine jB ?_)
   rw [c3]
   repeat (first|refine jS ?_|refine jD ?_|refine jB ?_)
   rw [c4]
   repeat (first|refine jS ?_|refine jD ?_|refine jB ?_)
   refine jBb [] hc ?_
   repeat (first|refine jS ?_|refine jD ?_|refine jB ?_)
   refine jloopI (fun i:Nat=>i≤n∧mkBad ts q 2 i=0) [1,3,4,8,54,55] (fun i=>[iv (q:Int),iv 2,.ptr 0 0,.ptr 1 0,iv (n:Int),iv (i:Int)])
    (fun i=>[.box 26 [.sl (ws.map iv),.arr 2 1],.box 26 [.slf [],.slf []],.arr 1 3 1 ((mkTags ts q i 2).map iv)]) (fun i=>n-i) 0 ⟨Nat.zero_le _,rfl⟩ rfl ?_ (fun i hi=>?_)
   ·rw [mk0]
   obtain ⟨hi,hz⟩:=hi
   repeat (first|refine jS ?_|refine jD ?_|refine jB ?_)
   refine jc rfl rfl rfl (fun h=>?_) (fun h=>?_)
   ·have h:=of_decide_eq_true h
    have hi2:i < n:=by omega
    have hadd:IntKind.i64.wrap ((q:Int)+i)=((q+i:Nat):Int):=by rw [wrap_id]<;>omega
    have hidx:IntKind.i64.wrap ((i:Int)+1)=((i+1:Nat):Int):=idx_next hi2 (by omega)
    have hln:=mkTags_len (tags:=ts) (k:=q) (n:=i) (tag:=2) (by omega)
    have hgt:=mkTags_get (tags:=ts) (k:=q) (n:=i) (tag:=2) (by omega)
    have hsu:=mkTags_succ (tags:=ts) (k:=q) (n:=i) (tag:=2) (by omega)
    have hg0:g0 ts (q+i)=at' ts ((q+i:Nat):Int):=by rw [←g0_at,Int.toNat_natCast]
    have hbd:=tag_bd (r4 (q+i) (by omega))
    have hwy:=why_ok _ hbd.1 hbd.2
    have hst:=fun h=>mkBad_stop (tags:=ts) (k:=q) (tag:=2) hz h (n-(i+1))
    rw [show i+1+(n-(i+1))=n by omega,hg0] at hst
    have hgo:=fun h=>mkBad_go (tags:=ts) (k:=q) (tag:=2) hz h
    rw [hg0] at hgo
    generalize hT:at' ts ((q+i:Nat):Int)=T at *
    repeat (first|refine jS ?_|refine jD ?_|refine jB ?_)
    rw [hadd]
    refine jo rfl rfl (index_own rfl rfl rfl rfl rfl rfl (by omega) (by simp only [List.length_map];omega)) rfl rfl ?_
    refine jo rfl rfl (load_own (v:=iv T) rfl rfl (by rw [map_at (by omega),hgt]) rfl rfl rfl) rfl rfl ?_
    repeat (first|refine jS ?_|refine jD ?_|refine jB ?_|refine jV hwy ?_)
    refine jc rfl rfl rfl (fun h0=>?_) (fun h0=>?_)
    ·repeat (first|refine jS ?_|refine jD ?_|refine jB ?_)
     have hv:why T≠0:=by rw [bne_iff_ne] at h0;exact h0
     have hB:=hst hv
     have hB0:decide (mkBad ts q 2 n=0)=false:=decide_eq_false (by rw [hB];exact hv)
     rw [hB0]
     simp only [cond_false]
     rw [hB]
     exact jR
    ·repeat (first|refine jS ?_|refine jD ?_|refine jB ?_|refine jV hwy ?_)
     rw [hadd]
     refine jo rfl rfl (index_own rfl rfl rfl rfl rfl rfl (by omega) (by simp only [List.length_map];omega)) rfl rfl ?_
     refine jo rfl rfl (store_enc (enc:=iv) (l:=mkTags ts q i 2) (l':=mkTags ts q (i+1) 2) rfl rfl rfl (map_at (by omega)) rfl rfl rfl rfl rfl (Nat.le_of_ble_eq_true rfl) (.inr ⟨rfl,rfl⟩) (by rw [put_at (enc:=iv) rfl,hsu]) rfl) rfl rfl ?_
     repeat (first|refine jS ?_|refine jD ?_|refine jB ?_)
     refine jnextI (i+1) ⟨by omega,hgo (by rw [bne_eq_false_iff_eq] at h0;exact h0)⟩ ?_ rfl (by omega)
     show some _=some _
     rw [hidx]
     rfl
   ·have h:=of_decide_eq_false h
    have:i=n:=by omega
    subst this
    have hB0:decide (mkBad ts q 2 i=0)=true:=decide_eq_true hz
    rw [hB0]
    simp only [cond_true]
    repeat (first|refine jS ?_|refine jD ?_|refine jB ?_)
    exact jR
 ·have e0:(decide (1≤n)&&(inn k 0 (ws.length-1)&&decide (n≤ws.length-k)))=false:=by
   rw [Bool.eq_false_iff];intro h;apply g
   unfold inn at h;simp only [Bool.and_eq_true,decide_eq_true_eq] at h;omega
  rw [e0]
  have hml:((ws.map iv).length:Int)=ws.length:=by rw [List.length_map]
  have hwr:0≤k→k < ws.length→IntKind.i64.wrap (((ws.map iv).length:Int)-k)=ws.length-k:=fun a b=>by rw [hml,wrap_id]<;>omega
  rcases ht with rfl|rfl
  all_goals (
   refine jC Tryz.func52 Tryz.ntmps52 (fun w0 β0 ext hβ=>?_)
   repeat' (first|refine jS ?_|refine jD ?_|refine jB ?_|refine jV h1 ?_|refine jo rfl rfl (index_at rfl rfl rfl rfl rfl rfl rfl rfl (by omega) (by omega)) rfl rfl ?_|(refine jc rfl rfl rfl (fun h=>?_) (fun h=>?_)<;>(try simp only [decide_eq_true_eq,decide_eq_false_iff_not,beq_iff_eq,beq_eq_false_iff_ne,bne_iff_ne,bne_eq_false_iff_eq,ne_eq] at h)<;>(try (exfalso;omega)))|(refine jg rfl rfl rfl rfl (fun h=>?_) (fun h=>?_)<;>(fail_if_success (exact absurd h (by decide)))<;>(try simp only [decide_eq_true_eq,decide_eq_false_iff_not,beq_iff_eq,beq_eq_false_iff_ne,bne_iff_ne,bne_eq_false_iff_eq,ne_eq] at h)<;>(try (exfalso;omega))))
  )
  all_goals exact jR
end Go.AL
end
section
set_option maxRecDepth 100000
namespace Go.AL
open Go Go.Proofs
attribute [local irreducible] J
theorem elems_put (l:List (Wput)):ElemsOk 2 (l.map encPut):=by
 intro y hy
 obtain ⟨a,_,rfl⟩:=List.mem_map.1 hy
 exact ⟨rfl,rfl⟩
theorem clone_put_v (l:List (Wput)) (hl:l.length≤1000):ACalls Tryz.prog 197 [.sl (l.map encPut)] [] (one (.sl (l.map encPut)) []):=by
 refine jC Tryz.func197 Tryz.ntmps197 (fun w0 β0 ext hβ=>?_)
 repeat (first|refine jS ?_|refine jD ?_|refine jB ?_)
 refine jq rfl rfl rfl (eq_nil rfl rfl rfl rfl) ?_
 rintro r H' ⟨⟨b,rfl,hb⟩,rfl⟩
 refine ⟨_,rfl,?_⟩
 repeat (first|refine jS ?_|refine jD ?_|refine jB ?_)
 refine jif rfl (fun h=>?_) (fun h=>?_)
 ·rw [hb h]
  repeat (first|refine jS ?_|refine jD ?_|refine jB ?_)
  exact jR
 ·by_cases h0:l=[]
  ·subst h0
   repeat (first|refine jS ?_|refine jD ?_|refine jB ?_)
   refine jo (kd:=.m) rfl rfl (append_nil rfl rfl (SrcOf.sl rfl) rfl rfl rfl rfl rfl) rfl rfl ?_
   repeat (first|refine jS ?_|refine jD ?_|refine jB ?_)
   exact jR
  ·repeat (first|refine jS ?_|refine jD ?_|refine jB ?_)
   refine jo rfl rfl (append_new rfl rfl (.sl rfl) rfl rfl rfl rfl rfl (fun y hy=>by cases hy) (elems_put l) rfl (by simpa using h0) (by simp [ty222];omega) (by simp;omega)) rfl rfl ?_
   repeat (first|refine jS ?_|refine jD ?_|refine jB ?_)
   exact jR
theorem elems_buf (l:List (List Wput)):ElemsOk 1 (l.map encBuf):=by
 intro y hy
 obtain ⟨a,_,rfl⟩:=List.mem_map.1 hy
 exact ⟨rfl,rfl⟩
theorem clone_buf (l:List (List Wput)) (h0:l≠[]) (hl:l.length≤1000):ACalls Tryz.prog 149 [.sl (l.map encBuf)] [] (one (.arr 0 1) [.arr 1 159 1 (l.map encBuf)]):=by
 refine jC Tryz.func149 Tryz.ntmps149 (fun w0 β0 ext hβ=>?_)
 repeat (first|refine jS ?_|refine jD ?_|refine jB ?_)
 refine jq rfl rfl rfl (eq_nil rfl rfl rfl rfl) ?_
 rintro r H' ⟨⟨b,rfl,hb⟩,rfl⟩
 refine ⟨_,rfl,?_⟩
 have hb:b=false:=by
  cases b with
  | false=>rfl
  | true=>exact absurd (by simpa using hb rfl) h0
 subst hb
 repeat (first|refine jS ?_|refine jD ?_|refine jB ?_)
 refine jo rfl rfl (append_new rfl rfl (.sl rfl) rfl rfl rfl rfl rfl (fun y hy=>by cases hy) (elems_buf l) rfl (by simpa using h0) (by simp [ty159];omega) (by simp;omega)) rfl rfl ?_
 repeat (first|refine jS ?_|refine jD ?_|refine jB ?_)
 exact jret [0] true rfl rfl rfl ⟨rfl,rfl⟩
theorem elems_thr (l:List (Thr)):ElemsOk 13 (l.map encThr):=by
 intro y hy
 obtain ⟨a,_,rfl⟩:=List.mem_map.1 hy
 exact ⟨rfl,rfl⟩
theorem clone_thr (l:List (Thr)) (h0:l≠[]) (hl:l.length≤1000):ACalls Tryz.prog 198 [.sl (l.map encThr)] [] (one (.arr 0 1) [.arr 1 43 13 (l.map encThr)]):=by
 refine jC Tryz.func198 Tryz.ntmps198 (fun w0 β0 ext hβ=>?_)
 repeat (first|refine jS ?_|refine jD ?_|refine jB ?_)
 refine jq rfl rfl rfl (eq_nil rfl rfl rfl rfl) ?_
 rintro r H' ⟨⟨b,rfl,hb⟩,rfl⟩
 refine ⟨_,rfl,?_⟩
 have hb:b=false:=by
  cases b with
  | false=>rfl
  | true=>exact absurd (by simpa using hb rfl) h0
 subst hb
 repeat (first|refine jS ?_|refine jD ?_|refine jB ?_)
 refine jo rfl rfl (append_new rfl rfl (.sl rfl) rfl rfl rfl rfl rfl (fun y hy=>by cases hy) (elems_thr l) rfl (by simpa using h0) (by simp [ty43];omega) (by simp;omega)) rfl rfl ?_
 repeat (first|refine jS ?_|refine jD ?_|refine jB ?_)
 exact jret [0] true rfl rfl rfl ⟨rfl,rfl⟩
theorem elems_int (l:List (Int)):ElemsOk 1 (l.map iv):=by
 intro y hy
 obtain ⟨a,_,rfl⟩:=List.mem_map.1 hy
 exact ⟨rfl,rfl⟩
theorem clone_int (l:List (Int)) (h0:l≠[]) (hl:l.length≤1000):ACalls Tryz.prog 199 [.sl (l.map iv)] [] (one (.arr 0 1) [.arr 1 3 1 (l.map iv)]):=by
 refine jC Tryz.func199 Tryz.ntmps199 (fun w0 β0 ext hβ=>?_)
 repeat (first|refine jS ?_|refine jD ?_|refine jB ?_)
 refine jq rfl rfl rfl (eq_nil rfl rfl rfl rfl) ?_
 rintro r H' ⟨⟨b,rfl,hb⟩,rfl⟩
 refine ⟨_,rfl,?_⟩
 have hb:b=false:=by
  cases b with
  | false=>rfl
  | true=>exact absurd (by simpa using hb rfl) h0
 subst hb
 repeat (first|refine jS ?_|refine jD ?_|refine jB ?_)
 refine jo rfl rfl (append_new rfl rfl (.sl rfl) rfl rfl rfl rfl rfl (fun y hy=>by cases hy) (elems_int l) rfl (by simpa using h0) (by simp [ty3];omega) (by simp;omega)) rfl rfl ?_
 repeat (first|refine jS ?_|refine jD ?_|refine jB ?_)
 exact jret [0] true rfl rfl rfl ⟨rfl,rfl⟩
theorem elems_frm (l:List (Frm)):ElemsOk 5 (l.map encFrm):=by
 intro y hy
 obtain ⟨a,_,rfl⟩:=List.mem_map.1 hy
 exact ⟨rfl,rfl⟩
theorem clone_frm_v (l:List (Frm)) (hl:l.length≤1000):ACalls Tryz.prog 267 [.sl (l.map encFrm)] [] (one (.sl (l.map encFrm)) []):=by
 refine jC Tryz.func267 Tryz.ntmps267 (fun w0 β0 ext hβ=>?_)
 repeat (first|refine jS ?_|refine jD ?_|refine jB ?_)
 refine jq rfl rfl rfl (eq_nil rfl rfl rfl rfl) ?_
 rintro r H' ⟨⟨b,rfl,hb⟩,rfl⟩
 refine ⟨_,rfl,?_⟩
 repeat (first|refine jS ?_|refine jD ?_|refine jB ?_)
 refine jif rfl (fun h=>?_) (fun h=>?_)
 ·rw [hb h]
  repeat (first|refine jS ?_|refine jD ?_|refine jB ?_)
  exact jR
 ·by_cases h0:l=[]
  ·subst h0
   repeat (first|refine jS ?_|refine jD ?_|refine jB ?_)
   refine jo (kd:=.m) rfl rfl (append_nil rfl rfl (SrcOf.sl rfl) rfl rfl rfl rfl rfl) rfl rfl ?_
   repeat (first|refine jS ?_|refine jD ?_|refine jB ?_)
   exact jR
  ·repeat (first|refine jS ?_|refine jD ?_|refine jB ?_)
   refine jo rfl rfl (append_new rfl rfl (.sl rfl) rfl rfl rfl rfl rfl (fun y hy=>by cases hy) (elems_frm l) rfl (by simpa using h0) (by simp [ty174];omega) (by simp;omega)) rfl rfl ?_
   repeat (first|refine jS ?_|refine jD ?_|refine jB ?_)
   exact jR
theorem clip_evt (l:List (Evt)):ACalls Tryz.prog 196 [.sl (l.map encEvt)] [] (one (.slf (l.map encEvt)) []):=by
 have hel:ElemsOk 6 (l.map encEvt):=by
  intro y hy
  obtain ⟨a,_,rfl⟩:=List.mem_map.1 hy
  exact ⟨rfl,rfl⟩
 refine jC Tryz.func196 Tryz.ntmps196 (fun w0 β0 ext hβ=>?_)
 repeat (first|refine jS ?_|refine jD ?_|refine jB ?_)
 refine jo rfl rfl (cut_full rfl rfl rfl rfl rfl rfl rfl rfl hel (Int.le_refl 0) (Int.natCast_nonneg _) (Int.le_refl _)) rfl rfl ?_
 rw [show List.take (((l.map encEvt).length:Int).toNat-(0:Int).toNat) (List.drop (0:Int).toNat (l.map encEvt))=l.map encEvt by rw [List.take_of_length_le (by simp)];simp]
 repeat (first|refine jS ?_|refine jD ?_|refine jB ?_)
 exact jret [] false rfl rfl rfl ⟨rfl,rfl⟩
theorem clip_frm (l:List (Frm)):ACalls Tryz.prog 266 [.sl (l.map encFrm)] [] (one (.slf (l.map encFrm)) []):=by
 have hel:ElemsOk 5 (l.map encFrm):=by
  intro y hy
  obtain ⟨a,_,rfl⟩:=List.mem_map.1 hy
  exact ⟨rfl,rfl⟩
 refine jC Tryz.func266 Tryz.ntmps266 (fun w0 β0 ext hβ=>?_)
 repeat (first|refine jS ?_|refine jD ?_|refine jB ?_)
 refine jo rfl rfl (cut_full rfl rfl rfl rfl rfl rfl rfl rfl hel (Int.le_refl 0) (Int.natCast_nonneg _) (Int.le_refl _)) rfl rfl ?_
 rw [show List.take (((l.map encFrm).length:Int).toNat-(0:Int).toNat) (List.drop (0:Int).toNat (l.map encFrm))=l.map encFrm by rw [List.take_of_length_le (by simp)];simp]
 repeat (first|refine jS ?_|refine jD ?_|refine jB ?_)
 exact jret [] false rfl rfl rfl ⟨rfl,rfl⟩
end Go.AL
end
