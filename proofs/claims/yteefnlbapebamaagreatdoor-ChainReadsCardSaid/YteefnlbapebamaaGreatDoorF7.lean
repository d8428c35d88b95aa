/-
  Part 7 of the proof texts: the program logic over the model, then the contracts of the functions that the laws reach. No conditions.
-/
import Derived.Test.YteefnlbapebamaaGreatDoorF6
set_option linter.unusedVariables false
set_option linter.unusedSimpArgs false
set_option maxHeartbeats 2000000
section
set_option maxRecDepth 100000
namespace Go.AL
open Go Go.Proofs
attribute [local irreducible] J
theorem operands_ok (op a b c:Int):ACalls Tryz.prog 132 [.agg [iv op,iv a,iv b,iv c]] [] (one (.agg [iv a,iv b,iv c]) []):=by
 refine jC Tryz.func132 Tryz.ntmps132 (fun w0 β0 ext hβ=>?_)
 repeat (first|refine jS ?_|refine jD ?_|refine jB ?_)
 exact jR
def mH (l:List Ins):List AObj:=[.box 214 opsC,.box 24 [.sl (l.map encIns)]]
theorem mayR {n:Nat} {kd:Bs} {a b c:Int} :
  ((∀ p,p < 3→mayV kd[p]? n ([a,b,c].getD p 0)=true)→(mayV kd[0]? n a&&(mayV kd[1]? n b&&mayV kd[2]? n c))=true) ∧
  ∀ p,p < 3→mayV kd[p]? n ([a,b,c].getD p 0)=false→(mayV kd[0]? n a&&(mayV kd[1]? n b&&mayV kd[2]? n c))=false:=by
 refine ⟨fun h=>?_,fun p hp h=>?_⟩
 ·have h0:=h 0 (by omega);have h1:=h 1 (by omega);have h2:=h 2 (by omega)
  simp at h0 h1 h2
  rw [h0,h1,h2];rfl
 ·match p,hp with
  | 0,_=>simp at h;rw [h];rfl
  | 1,_=>simp at h;rw [h];simp
  | 2,_=>simp at h;rw [h];simp
  | p+3,hp=>omega
theorem str_idx {kd:Bs} {i:Nat} {c:UInt8} (hc:kd[i]? = some c):(⟨kd.toArray⟩:ByteArray)[((i:Int)).toNat]? = some c:=by
 have hik:i < kd.length:=(List.getElem?_eq_some_iff.1 hc).1
 have hsz:((i:Int)).toNat < (⟨kd.toArray⟩:ByteArray).size:=hik
 rw [getElem?_pos (⟨kd.toArray⟩:ByteArray) _ hsz]
 rw [List.getElem?_eq_getElem hik] at hc
 injection hc with hc
 rw [←hc];rfl
theorem may1_ok (l:List Ins) (op a b c:Int) (hl:l.length≤1000000):ACalls Tryz.prog 130 [.agg [iv op,iv a,iv b,iv c],.ptr 0 0,.ptr 1 0] (mH l) (one (bv (mayI l.length ⟨op,a,b,c⟩)) (mH l)):=by
 have h1:=in_ok op 0 26
 have h2:=operands_ok op a b c
 unfold mayI mH
 simp only
 cases hop:inn op 0 26 with
 | false =>
  rw [hop] at h1
  simp only [Bool.false_and]
  refine jC Tryz.func130 Tryz.ntmps130 (fun w0 β0 ext hβ=>?_)
  repeat (first|refine jS ?_|refine jD ?_|refine jB ?_|refine jV h1 ?_)
  exact jR
 | true =>
  rw [hop] at h1
  simp only [Bool.true_and]
  obtain ⟨ho1,ho2⟩:=inn_iff.1 hop
  obtain ⟨k,rfl⟩:∃ k:Nat,op=k:=⟨op.toNat,by omega⟩
  have hk:k < 27:=by omega
  have hkd:=ops_kind k hk
  obtain ⟨hk3,hkc⟩:=kinds_ok k hk
  rw [show ((k:Int)).toNat=k from Int.toNat_natCast k]
  unfold kdO
  generalize (at' opsT (k:Int)).2=kd at *
  obtain ⟨rt,rf⟩:=mayR (n:=l.length) (kd:=kd) (a:=a) (b:=b) (c:=c)
  generalize (mayV kd[0]? l.length a&&(mayV kd[1]? l.length b&&mayV kd[2]? l.length c))=res at *
  refine jC Tryz.func130 Tryz.ntmps130 (fun w0 β0 ext hβ=>?_)
  repeat (first|refine jS ?_|refine jD ?_|refine jB ?_|refine jV h1 ?_|refine jo rfl rfl (index_arr rfl rfl rfl rfl rfl (by omega) (by omega)) rfl rfl ?_|refine jo rfl rfl (load_dsem rfl rfl rfl hkd) rfl rfl ?_|refine jV h2 ?_)
  refine jloopI (fun q:Nat=>q≤3∧∀ p,p < q→mayV kd[p]? l.length ([a,b,c].getD p 0)=true) [3,5,20,21,1,2] (fun q=>[.ptr 2 0,sv kd,.agg [iv a,iv b,iv c],iv q,.ptr 0 0,.ptr 1 0])
   (fun _=>[.box 214 opsC,.box 24 [.sl (l.map encIns)],.box 176 [iv (k:Int),iv a,iv b,iv c]]) (fun q=>3-q) 0 ⟨by omega,fun p hp=>absurd hp (by omega)⟩ rfl rfl (fun q hq=>?_)
  obtain ⟨hq,hok⟩:=hq
  have hstep:∀ q,q < 3→(∀ p,p < q→mayV kd[p]? l.length ([a,b,c].getD p 0)=true)→mayV kd[q]? l.length ([a,b,c].getD q 0)=true→q+1≤3∧∀ p,p < q+1→mayV kd[p]? l.length ([a,b,c].getD p 0)=true:=fun q hq h1 h2=>⟨by omega,fun p hp=>by
   by_cases e:p=q
   ·rw [e];exact h2
   ·exact h1 p (by omega)⟩
  by_cases hq3:q=3
  ·subst hq3
   rw [rt hok]
   repeat (first|refine jS ?_|refine jD ?_|refine jB ?_)
   exact jR
  ·have hql:q=0∨q=1∨q=2:=by omega
   obtain ⟨v,hv⟩:∃ v,[a,b,c].getD q 0=v:=⟨_,rfl⟩
   have rf':=rf q (by omega)
   have hst:=hstep q (by omega) hok
   rw [hv] at rf' hst
   by_cases hqk:q < kd.length
   ·have hc:kd[q]? = some kd[q]:=List.getElem?_eq_getElem hqk
    have hcb:=str_idx hc
    have hcc:=hkc kd[q] (List.getElem_mem hqk)
    have hd1:decide ((q:Int) < ((ByteArray.size ⟨kd.toArray⟩:Nat):Int))=true:=decide_eq_true (by rw [show ByteArray.size ⟨kd.toArray⟩=kd.length from rfl];omega)
    rw [hc] at rf' hst
    generalize kd[q]=ch at *
    rcases hcc with rfl|rfl|rfl
    ·skip
     have h3:=in_ok v 0 7
     have e:mayV (some 114) l.length v=inn v 0 7:=rfl
     rw [e] at rf' hst
     cases hb:inn v 0 7 with
     | false =>
      rw [hb] at h3
      rw [rf' hb]
      rcases hql with rfl|rfl|rfl
      all_goals subst hv
      all_goals (
       repeat (first|refine jS ?_|refine jD ?_|refine jB ?_|refine jo rfl rfl (index_agg rfl rfl rfl rfl rfl (by omega) (by omega) rfl) rfl rfl ?_|refine jo rfl rfl (index_str rfl rfl rfl rfl (Int.natCast_nonneg _) hcb) rfl rfl ?_|refine jV h3 ?_)
      )
      all_goals rw [hd1]
      all_goals (
       repeat (first|refine jS ?_|refine jD ?_|refine jB ?_|refine jo rfl rfl (index_agg rfl rfl rfl rfl rfl (by omega) (by omega) rfl) rfl rfl ?_|refine jo rfl rfl (index_str rfl rfl rfl rfl (Int.natCast_nonneg _) hcb) rfl rfl ?_|refine jV h3 ?_)
      )
      all_goals exact jR
     | true =>
      rw [hb] at h3
      rcases hql with rfl|rfl|rfl
      all_goals subst hv
      all_goals (
       repeat (first|refine jS ?_|refine jD ?_|refine jB ?_|refine jo rfl rfl (index_agg rfl rfl rfl rfl rfl (by omega) (by omega) rfl) rfl rfl ?_|refine jo rfl rfl (index_str rfl rfl rfl rfl (Int.natCast_nonneg _) hcb) rfl rfl ?_|refine jV h3 ?_)
      )
      all_goals rw [hd1]
      all_goals (
       repeat (first|refine jS ?_|refine jD ?_|refine jB ?_|refine jo rfl rfl (index_agg rfl rfl rfl rfl rfl (by omega) (by omega) rfl) rfl rfl ?_|refine jo rfl rfl (index_str rfl rfl rfl rfl (Int.natCast_nonneg _) hcb) rfl rfl ?_|refine jV h3 ?_)
      )
      all_goals refine jnextI (_+1) (hst hb) rfl rfl (by omega)
    ·skip
     have h3:=in_ok v (-1000000000) 1000000000
     have e:mayV (some 110) l.length v=inn v (-1000000000) 1000000000:=rfl
     rw [e] at rf' hst
     cases hb:inn v (-1000000000) 1000000000 with
     | false =>
      rw [hb] at h3
      rw [rf' hb]
      rcases hql with rfl|rfl|rfl
      all_goals subst hv
      all_goals (
       repeat (first|refine jS ?_|refine jD ?_|refine jB ?_|refine jo rfl rfl (index_agg rfl rfl rfl rfl rfl (by omega) (by omega) rfl) rfl rfl ?_|refine jo rfl rfl (index_str rfl rfl rfl rfl (Int.natCast_nonneg _) hcb) rfl rfl ?_|refine jV h3 ?_)
      )
      all_goals rw [hd1]
      all_goals (
       repeat (first|refine jS ?_|refine jD ?_|refine jB ?_|refine jo rfl rfl (index_agg rfl rfl rfl rfl rfl (by omega) (by omega) rfl) rfl rfl ?_|refine jo rfl rfl (index_str rfl rfl rfl rfl (Int.natCast_nonneg _) hcb) rfl rfl ?_|refine jV h3 ?_)
      )
      all_goals exact jR
     | true =>
      rw [hb] at h3
      rcases hql with rfl|rfl|rfl
      all_goals subst hv
      all_goals (
       repeat (first|refine jS ?_|refine jD ?_|refine jB ?_|refine jo rfl rfl (index_agg rfl rfl rfl rfl rfl (by omega) (by omega) rfl) rfl rfl ?_|refine jo rfl rfl (index_str rfl rfl rfl rfl (Int.natCast_nonneg _) hcb) rfl rfl ?_|refine jV h3 ?_)
      )
      all_goals rw [hd1]
      all_goals (
       repeat (first|refine jS ?_|refine jD ?_|refine jB ?_|refine jo rfl rfl (index_agg rfl rfl rfl rfl rfl (by omega) (by omega) rfl) rfl rfl ?_|refine jo rfl rfl (index_str rfl rfl rfl rfl (Int.natCast_nonneg _) hcb) rfl rfl ?_|refine jV h3 ?_)
      )
      all_goals refine jnextI (_+1) (hst hb) rfl rfl (by omega)
    ·skip
     have h3:=in_ok v 0 ((l.map encIns).length:Int)
     have e:mayV (some 116) l.length v=inn v 0 ((l.map encIns).length:Int):=by rw [List.length_map];rfl
     rw [e] at rf' hst
     cases hb:inn v 0 ((l.map encIns).length:Int) with
     | false =>
      rw [hb] at h3
      rw [rf' hb]
      rcases hql with rfl|rfl|rfl
      all_goals subst hv
      all_goals (
       repeat (first|refine jS ?_|refine jD ?_|refine jB ?_|refine jo rfl rfl (index_agg rfl rfl rfl rfl rfl (by omega) (by omega) rfl) rfl rfl ?_|refine jo rfl rfl (index_str rfl rfl rfl rfl (Int.natCast_nonneg _) hcb) rfl rfl ?_|refine jV h3 ?_)
      )
      all_goals rw [hd1]
      all_goals (
       repeat (first|refine jS ?_|refine jD ?_|refine jB ?_|refine jo rfl rfl (index_agg rfl rfl rfl rfl rfl (by omega) (by omega) rfl) rfl rfl ?_|refine jo rfl rfl (index_str rfl rfl rfl rfl (Int.natCast_nonneg _) hcb) rfl rfl ?_|refine jV h3 ?_)
      )
      all_goals exact jR
     | true =>
      rw [hb] at h3
      rcases hql with rfl|rfl|rfl
      all_goals subst hv
      all_goals (
       repeat (first|refine jS ?_|refine jD ?_|refine jB ?_|refine jo rfl rfl (index_agg rfl rfl rfl rfl rfl (by omega) (by omega) rfl) rfl rfl ?_|refine jo rfl rfl (index_str rfl rfl rfl rfl (Int.natCast_nonneg _) hcb) rfl rfl ?_|refine jV h3 ?_)
      )
      all_goals rw [hd1]
      all_goals (
       repeat (first|refine jS ?_|refine jD ?_|refine jB ?_|refine jo rfl rfl (index_agg rfl rfl rfl rfl rfl (by omega) (by omega) rfl) rfl rfl ?_|refine jo rfl rfl (index_str rfl rfl rfl rfl (Int.natCast_nonneg _) hcb) rfl rfl ?_|refine jV h3 ?_)
      )
      all_goals refine jnextI (_+1) (hst hb) rfl rfl (by omega)
   ·have hc:kd[q]? = none:=List.getElem?_eq_none (by omega)
    have hd1:decide ((q:Int) < ((ByteArray.size ⟨kd.toArray⟩:Nat):Int))=false:=decide_eq_false (by rw [show ByteArray.size ⟨kd.toArray⟩=kd.length from rfl];omega)
    rw [hc] at rf' hst
    have h3:=in_ok v 0 0
    have e:mayV none l.length v=inn v 0 0:=rfl
    rw [e] at rf' hst
    cases hb:inn v 0 0 with
    | false =>
     rw [hb] at h3
     rw [rf' hb]
     rcases hql with rfl|rfl|rfl
     all_goals subst hv
     all_goals (
      repeat (first|refine jS ?_|refine jD ?_|refine jB ?_|refine jo rfl rfl (index_agg rfl rfl rfl rfl rfl (by omega) (by omega) rfl) rfl rfl ?_|refine jV h3 ?_)
     )
     all_goals rw [hd1]
     all_goals (
      repeat (first|refine jS ?_|refine jD ?_|refine jB ?_|refine jo rfl rfl (index_agg rfl rfl rfl rfl rfl (by omega) (by omega) rfl) rfl rfl ?_|refine jV h3 ?_)
     )
     all_goals exact jR
    | true =>
     rw [hb] at h3
     rcases hql with rfl|rfl|rfl
     all_goals subst hv
     all_goals (
      repeat (first|refine jS ?_|refine jD ?_|refine jB ?_|refine jo rfl rfl (index_agg rfl rfl rfl rfl rfl (by omega) (by omega) rfl) rfl rfl ?_|refine jV h3 ?_)
     )
     all_goals rw [hd1]
     all_goals (
      repeat (first|refine jS ?_|refine jD ?_|refine jB ?_|refine jo rfl rfl (index_agg rfl rfl rfl rfl rfl (by omega) (by omega) rfl) rfl rfl ?_|refine jV h3 ?_)
     )
     all_goals refine jnextI (_+1) (hst hb) rfl rfl (by omega)
end Go.AL
namespace Go.AL
open Go Go.Proofs
attribute [local irreducible] J
def mH2 (l:List Ins):List AObj:=[.box 214 opsC,.box 24 [.sl (l.map encIns)],.box 217 [.fn (.func 130) [] [.ptr 0 0,.ptr 1 0]]]
theorem may2_ok (l:List Ins) (i:Ins) (hl:l.length≤1000000):ACalls Tryz.prog 134 [encIns i,.ptr 2 0] (mH2 l) (one (bv (!mayI l.length i)) (mH2 l)):=by
 obtain ⟨op,a,b,c⟩:=i
 have h1:=may1_ok l op a b c hl
 unfold mH at h1
 unfold mH2 encIns
 simp only
 generalize mayI l.length ⟨op,a,b,c⟩=r at *
 refine jC Tryz.func134 Tryz.ntmps134 (fun w0 β0 ext hβ=>?_)
 repeat (first|refine jS ?_|refine jD ?_|refine jB ?_)
 refine jBb [0,1] h1 ?_
 cases r
 all_goals (
  repeat (first|refine jS ?_|refine jD ?_|refine jB ?_)
 )
 all_goals exact jR
def fidx (n:Nat) (l:List Ins):Int:=match l.findIdx? (fun i=>!mayI n i) with|some i=>i|none=>-1
theorem findex_ok (l:List Ins) (hl:l.length≤1000000):ACalls Tryz.prog 183 [.sl (l.map encIns),.fn (.func 134) [] [.ptr 2 0]] (mH2 l) (one (iv (fidx l.length l)) (mH2 l)):=by
 unfold mH2
 refine jC Tryz.func183 Tryz.ntmps183 (fun w0 β0 ext hβ=>?_)
 repeat (first|refine jS ?_|refine jD ?_|refine jB ?_)
 refine jloopI (fun k:Nat=>k≤l.length∧∀ q,q < k→mayI l.length (at' l (q:Int))=true) [0,1,8,7] (fun k=>[.sl (l.map encIns),.fn (.func 134) [] [.ptr 2 0],.v (.int .i64 (k:Int)),.v (.int .i64 ((l.map encIns).length:Int))])
  (fun _=>[.box 214 opsC,.box 24 [.sl (l.map encIns)],.box 217 [.fn (.func 130) [] [.ptr 0 0,.ptr 1 0]]]) (fun k=>l.length-k) 0 ⟨Nat.zero_le _,fun q h=>absurd h (by omega)⟩ rfl rfl (fun k hk=>?_)
 obtain ⟨hk,hok⟩:=hk
 repeat (first|refine jS ?_|refine jD ?_|refine jB ?_)
 refine jc rfl rfl rfl (fun h=>?_) (fun h=>?_)
 ·have h:=of_decide_eq_true h
  rw [List.length_map] at h
  have hk2:k < l.length:=by omega
  have hc:=may2_ok l (at' l (k:Int)) hl
  unfold mH2 at hc
  repeat (first|refine jS ?_|refine jD ?_|refine jB ?_|refine jI (Int.natCast_nonneg k) h ?_)
  refine jBb [0,1,2] hc ?_
  cases hb:mayI l.length (at' l (k:Int)) with
  | false =>
   repeat (first|refine jS ?_|refine jD ?_|refine jB ?_)
   have:fidx l.length l=(k:Int):=by
    unfold fidx
    rw [at_nat l k hk2] at hb
    rw [List.findIdx?_eq_some_iff_getElem.2 ⟨hk2,by rw [hb];rfl,fun j hj=>by
     have e2:=hok j hj
     rw [at_nat l j (by omega)] at e2
     simp [e2]⟩]
   rw [this]
   exact jR
  | true =>
   repeat (first|refine jS ?_|refine jD ?_|refine jB ?_)
   refine jnextI (k+1) ⟨by omega,fun q hq=>?_⟩ ?_ rfl (by omega)
   ·by_cases e:q=k
    ·subst e;exact hb
    ·exact hok q (by omega)
   ·show some _=some _
    rw [idx_next hk2 (by omega)]
 ·have h:=of_decide_eq_false h
  rw [List.length_map] at h
  repeat (first|refine jS ?_|refine jD ?_|refine jB ?_)
  have:fidx l.length l = -1:=by
   unfold fidx
   rw [List.findIdx?_eq_none_iff.2 fun p hp=>?_]
   obtain ⟨i,hi,rfl⟩:=List.getElem_of_mem hp
   have e2:=hok i (by omega)
   rw [at_nat l i hi] at e2
   simp [e2]
  rw [this]
  exact jR
theorem containsI_ok (l:List Ins) (hl:l.length≤1000000):ACalls Tryz.prog 133 [.sl (l.map encIns),.fn (.func 134) [] [.ptr 2 0]] (mH2 l) (one (bv (!l.all (mayI l.length))) (mH2 l)):=by
 have h1:=findex_ok l hl
 have h2:decide (fidx l.length l≥0) = !l.all (mayI l.length):=by
  unfold fidx
  cases hf:l.findIdx? (fun i=>!mayI l.length i) with
  | some i =>
   obtain ⟨hi,h3,_⟩:=List.findIdx?_eq_some_iff_getElem.1 hf
   have:l.all (mayI l.length)=false:=by
    rw [List.all_eq_false]
    exact ⟨_,List.getElem_mem hi,by simpa using h3⟩
   rw [this];simp
  | none =>
   rw [List.findIdx?_eq_none_iff] at hf
   have:l.all (mayI l.length)=true:=by
    rw [List.all_eq_true]
    intro x hx
    simpa using hf x hx
   rw [this];rfl
 unfold mH2 at *
 refine jC Tryz.func133 Tryz.ntmps133 (fun w0 β0 ext hβ=>?_)
 repeat (first|refine jS ?_|refine jD ?_|refine jB ?_)
 refine jBb [0,1,2] h1 ?_
 repeat (first|refine jS ?_|refine jD ?_|refine jB ?_)
 rw [h2]
 exact jR
theorem right_ok (l:List Ins) (hl:l.length≤1000000):ACalls Tryz.prog 86 [encIs l] [] (one (bv (rightC l)) []):=by
 have h1:=containsI_ok l hl
 have hop:=operations_ok
 unfold rightC
 unfold mH2 at h1
 unfold encIs
 have hd:decide (((l.map encIns).length:Int)≤1000)=decide (l.length≤1000):=by
  rw [List.length_map]
  by_cases h:l.length≤1000
  ·rw [decide_eq_true h,decide_eq_true (by omega)]
  ·rw [decide_eq_false h,decide_eq_false (by omega)]
 cases hb:decide (l.length≤1000) with
 | false =>
  rw [hb] at hd
  refine jC Tryz.func86 Tryz.ntmps86 (fun w0 β0 ext hβ=>?_)
  repeat (first|refine jS ?_|refine jD ?_|refine jB ?_|refine jV hop ?_)
  rw [hd]
  repeat (first|refine jS ?_|refine jD ?_|refine jB ?_)
  exact jR
 | true =>
  rw [hb] at hd
  refine jC Tryz.func86 Tryz.ntmps86 (fun w0 β0 ext hβ=>?_)
  repeat (first|refine jS ?_|refine jD ?_|refine jB ?_|refine jV hop ?_)
  rw [hd]
  repeat (first|refine jS ?_|refine jD ?_|refine jB ?_)
  refine jBb [1,0,2] h1 ?_
  cases l.all (mayI l.length)
  all_goals (
   repeat (first|refine jS ?_|refine jD ?_|refine jB ?_)
  )
  all_goals exact jR
end Go.AL
end
section
namespace Go.AL
open Go Go.Proofs
structure Mem where
 words:List Int
 tags:List Int
 deriving DecidableEq,Inhabited
structure Wput where
 loc:Int
 val:Int
 deriving DecidableEq,Inhabited
structure Tso where
 mem:Mem
 depth:Int
 bufs:List (List Wput)
 deriving DecidableEq,Inhabited
structure Frm where
 back:Int
 kept:List Int
 deriving DecidableEq,Inhabited
structure Thr where
 pc:Int
 regs:List Int
 frames:List Frm
 state:Int
 fault:Int
 left:List Int
 deriving DecidableEq,Inhabited
structure Evt where
 kind:Int
 who:Int
 words:List Int
 deriving DecidableEq,Inhabited
structure Wd where
 code:List Ins
 tso:Tso
 thr:List Thr
 evs:List Evt
def ivs (l:List Int):AVal:=.sl (l.map iv)
def g0 (l:List Int) (k:Nat):Int:=l.getD k 0
def mCells (m:Mem):List AVal:=[ivs m.words,ivs m.tags]
def encMem (m:Mem):AVal:=.agg (mCells m)
def encPut (p:Wput):AVal:=.agg [iv p.loc,iv p.val]
def encBuf (b:List Wput):AVal:=.sl (b.map encPut)
def tCells (t:Tso):List AVal:=[ivs t.mem.words,ivs t.mem.tags,iv t.depth,.sl (t.bufs.map encBuf)]
def encTso (t:Tso):AVal:=.agg (tCells t)
def encFrm (f:Frm):AVal:=.agg [iv f.back,iv (g0 f.kept 0),iv (g0 f.kept 1),iv (g0 f.kept 2),iv (g0 f.kept 3)]
def thCells (t:Thr):List AVal :=
 [iv t.pc,iv (g0 t.regs 0),iv (g0 t.regs 1),iv (g0 t.regs 2),iv (g0 t.regs 3),iv (g0 t.regs 4),iv (g0 t.regs 5),iv (g0 t.regs 6),iv (g0 t.regs 7),.sl (t.frames.map encFrm),iv t.state,iv t.fault,.slz (t.left.map iv)]
def encThr (t:Thr):AVal:=.agg (thCells t)
def encEvt (e:Evt):AVal:=.agg [iv e.kind,iv e.who,iv (g0 e.words 0),iv (g0 e.words 1),iv (g0 e.words 2),iv (g0 e.words 3)]
def wCells (w:Wd):List AVal:=[.sl (w.code.map encIns),ivs w.tso.mem.words,ivs w.tso.mem.tags,iv w.tso.depth,.sl (w.tso.bufs.map encBuf),.sl (w.thr.map encThr),.sl (w.evs.map encEvt)]
def encWd (w:Wd):AVal:=.agg (wCells w)
def mem0:Mem:=⟨[],[]⟩
def tso0:Tso:=⟨mem0,0,[]⟩
def thr0:Thr:=⟨0,[0,0,0,0,0,0,0,0],[],0,0,[]⟩
def thrE0:AVal:=.agg [iv 0,iv 0,iv 0,iv 0,iv 0,iv 0,iv 0,iv 0,iv 0,.sl [],iv 0,iv 0,.sl []]
def resThr (p:Thr × Int):AVal:=cond (decide (p.2=0)) (encThr p.1) thrE0
def wd0:Wd:=⟨[],tso0,[],[]⟩
def tagOk (t w:Int):Bool:=(decide (t=0)&&decide (w=0))||(decide (t=1)||decide (t=2))
def mRight (m:Mem):Bool:=decide (1≤m.words.length)&&(decide (m.words.length≤160)&&(decide (m.tags.length=m.words.length)&&(List.zip m.tags m.words).all fun p=>tagOk p.1 p.2))
def why (t:Int):Int:=cond (decide (t=0)) 4 (cond (decide (t=1)) 0 5)
def mUse (m:Mem) (k:Int):Int:=cond (inn k 0 (m.words.length-1)) (why (g0 m.tags k.toNat)) 3
def mLoad (m:Mem) (k:Int):Int × Int:=cond (decide (mUse m k=0)) (g0 m.words k.toNat,0) (0,mUse m k)
def mStore (m:Mem) (k v:Int):Mem × Int:=cond (decide (mUse m k=0)) (⟨m.words.set k.toNat v,m.tags⟩,0) (mem0,mUse m k)
def mkE (tag t:Int):Int:=cond (decide (tag=1)) (cond (decide (t=1)) 6 0) (why t)
def mkTags (tags:List Int) (k n:Nat) (tag:Int):List Int:=tags.take k++List.replicate n tag++tags.drop (k+n)
def mkBad (tags:List Int) (k:Nat) (tag:Int):Nat→Int
 | 0=>0
 | n+1=>cond (decide (mkBad tags k tag n=0)) (mkE tag (g0 tags (k+n))) (mkBad tags k tag n)
def mMark (m:Mem) (k n tag:Int):Mem × Int :=
 cond (decide (1≤n)&&(inn k 0 (m.words.length-1)&&decide (n≤m.words.length-k)))
  (cond (decide (mkBad m.tags k.toNat tag n.toNat=0)) (⟨m.words,mkTags m.tags k.toNat n.toNat tag⟩,0) (mem0,mkBad m.tags k.toNat tag n.toNat)) (mem0,3)
def newest (b:List Wput) (k:Int):Option Int:=(b.reverse.find? (fun p=>decide (p.loc=k))).map (·.val)
def szOk (n:Nat) (d:Int):Bool:=decide (1≤n)&&(decide (n≤8)&&inn d 0 8)
def tsRight (t:Tso):Bool:=mRight t.mem&&(szOk t.bufs.length t.depth&&t.bufs.all fun b=>decide ((b.length:Int)≤t.depth)&&b.all fun p=>inn p.loc 0 (t.mem.words.length-1))
def bufAt (t:Tso) (k:Nat):List Wput:=t.bufs.getD k []
def tsLoad (t:Tso) (k:Nat) (a:Int):Int × Int :=
 cond (decide ((mLoad t.mem a).2=0)) ((newest (bufAt t k) a).getD (mLoad t.mem a).1,0) (0,(mLoad t.mem a).2)
def tsStore (t:Tso) (k:Nat) (a v:Int):Tso × Int :=
 cond (decide ((mStore t.mem a v).2=0))
  (cond (decide (t.depth=0)) (⟨(mStore t.mem a v).1,t.depth,t.bufs⟩,0)
   (cond (decide ((bufAt t k).length=t.depth)) (tso0,7) (⟨t.mem,t.depth,t.bufs.set k (bufAt t k++[⟨a,v⟩])⟩,0)))
  (tso0,(mStore t.mem a v).2)
def become (kind w a b:Int):Int:=cond (decide (kind=0)) (cond (decide (w=a)) b w) (cond (decide (kind=1)) a (IntKind.i64.wrap (w+a)))
def tsLocked (t:Tso) (k:Nat) (kind a x y:Int):Tso × Int × Int :=
 cond (decide ((bufAt t k).length=0))
  (cond (decide ((mLoad t.mem a).2=0)) (⟨(mStore t.mem a (become kind (mLoad t.mem a).1 x y)).1,t.depth,t.bufs⟩,(mLoad t.mem a).1,0) (tso0,0,(mLoad t.mem a).2)) (tso0,0,9)
def thRight (t:Thr):Bool :=
 inn t.pc 0 1000&&(decide (t.frames.length≤6)&&(decide (t.left.length≤8)&&(t.frames.all (fun f=>inn f.back 0 1000)&&(t.left.all (fun n=>inn n 0 8) &&
  cond (decide (t.state=0)||decide (t.state=1)) (decide (t.fault=0)) (cond (decide (t.state=2)) (inn t.fault 1 16) false)))))
def frCall (t:Thr) (to:Int):Thr × Int :=
 cond (!thRight t||(decide (t.pc=1000) || !inn to 0 1000)) (thr0,1)
  (cond (decide (t.frames.length=6)) (thr0,13) ({ t with frames:=t.frames++[⟨t.pc+1,[g0 t.regs 4,g0 t.regs 5,g0 t.regs 6,g0 t.regs 7]⟩],pc:=to },0))
def frBack (t:Thr):Thr × Int :=
 cond (!thRight t) (thr0,1) (match t.frames.getLast? with
  | none=>(thr0,8)
  | some f=>({ t with frames:=t.frames.dropLast,pc:=f.back,regs:=[g0 t.regs 0,g0 t.regs 1,g0 t.regs 2,g0 t.regs 3,g0 f.kept 0,g0 f.kept 1,g0 f.kept 2,g0 f.kept 3] },0))
def rg (t:Thr) (k:Int):Int:=g0 t.regs k.toNat
def regs8 (f:Nat→Int):List Int:=[f 0,f 1,f 2,f 3,f 4,f 5,f 6,f 7]
def setR (t:Thr) (k v:Int):Thr:={ t with regs:=regs8 fun j=>cond (decide (j=k.toNat)) v (g0 t.regs j) }
def regsOf (op:Nat):Nat:=[0,1,2,2,2,3,3,3,3,3,0,1,1,0,0,1].getD op 0
def trgOf (op:Nat):Int:=[0,-1,-1,-1,-1,-1,-1,-1,-1,-1,0,1,1,0,-1,-1].getD op 0
def loMay (i:Ins):Bool :=
 ([i.a,i.b,i.c].take (regsOf i.op.toNat)).all (fun k=>inn k 0 7)&&(decide (trgOf i.op.toNat = -1)||inn (g0 [i.a,i.b,i.c] (trgOf i.op.toNat).toNat) 0 1000)
def loVal (self:Int) (i:Ins) (t:Thr):Int:=match i.op.toNat with
 | 1=>i.b
 | 2=>rg t i.b
 | 3=>IntKind.i64.wrap (rg t i.b+i.c)
 | 4=>bitsI .and .i64 (rg t i.b) i.c
 | 5=>IntKind.i64.wrap (rg t i.b+rg t i.c)
 | 6=>IntKind.i64.wrap (rg t i.b-rg t i.c)
 | 7=>bitsI .and .i64 (rg t i.b) (rg t i.c)
 | 8=>bitsI .xor .i64 (rg t i.b) (rg t i.c)
 | 9=>cond (decide (rg t i.b < rg t i.c)) 1 0
 | _=>self
def loDo (self:Int) (i:Ins) (t:Thr):Thr :=
 match i.op.toNat with
 | 10=>{ t with pc:=i.a }
 | 11=>cond (decide (rg t i.a=0)) { t with pc:=i.b } t
 | 12=>cond (decide (rg t i.a=0)) t { t with pc:=i.b }
 | _=>setR t i.a (loVal self i t)
def loReady (t:Thr) (self:Int):Int:=cond (!thRight t || !inn self 0 7) 1 (cond (!decide (t.state=0)||decide (0 < t.left.length)) 9 0)
def loApply (self:Int) (i:Ins) (t:Thr):Thr × Int :=
 cond (decide (loReady t self=1)||decide (t.pc=1000)) (thr0,1)
  (cond (!decide (loReady t self=0)) (thr0,loReady t self)
   (cond (!inn i.op 1 15) (thr0,10)
    (cond (!loMay i) (thr0,3)
     (cond (decide (i.op=13)) (frCall t i.a)
      (cond (decide (i.op=14)) (frBack t) (loDo self i { t with pc:=t.pc+1 },0))))))
def wRight (w:Wd):Bool:=rightC w.code&&(tsRight w.tso&&(decide (w.thr.length=w.tso.bufs.length)&&w.thr.all fun t=>thRight t&&(decide (t.left.length=0)||decide (t.left.length=w.thr.length))))
def thrAt (w:Wd) (k:Nat):Thr:=w.thr.getD k thr0
def instrAt (w:Wd) (t:Thr):Ins:=cond (decide (t.pc < w.code.length)) (w.code.getD t.pc.toNat default) ⟨27,0,0,0⟩
def setT (w:Wd) (k:Nat) (t:Thr):Wd:={ w with thr:=w.thr.set k t }
def faultW (w:Wd) (k:Nat) (e:Int):Wd:=setT w k { thrAt w k with state:=2,fault:=e }
def canOp (w:Wd) (k:Nat) (t:Thr) (i:Ins):Bool:=match i.op.toNat with
 | 17=>decide (((bufAt w.tso k).length:Int) < w.tso.depth)||decide (w.tso.depth=0)
 | 18=>decide ((bufAt w.tso k).length=0)
 | 19=>decide ((bufAt w.tso k).length=0)
 | 20=>decide ((bufAt w.tso k).length=0)
 | 21=>decide ((bufAt w.tso k).length=0)
 | 22=>!t.left.any fun n=>decide (n > 0)
 | 23=>decide ((bufAt w.tso k).length=0)&&(!decide ((mLoad w.tso.mem (rg t i.b)).2=0) || !decide ((mLoad w.tso.mem (rg t i.b)).1=rg t i.a))
 | _=>true
def canW (w:Wd) (k:Nat):Bool:=decide ((thrAt w k).state=0)&&canOp w k (thrAt w k) (instrAt w (thrAt w k))
def pc1 (t:Thr):Thr:={ t with pc:=t.pc+1 }
def lens (b:List (List Wput)):List Int:=b.map fun x=>(x.length:Int)
def doN (w:Wd) (k:Nat) (t:Thr) (i:Ins):Wd × Thr × Int:=match i.op.toNat with
 | 0=>(w,{ t with state:=1 },0)
 | 16=>(w,setR (pc1 t) i.a (tsLoad w.tso k (IntKind.i64.wrap (rg t i.b+i.c))).1,(tsLoad w.tso k (IntKind.i64.wrap (rg t i.b+i.c))).2)
 | 17=>({ w with tso:=(tsStore w.tso k (IntKind.i64.wrap (rg t i.b+i.c)) (rg t i.a)).1 },pc1 t,(tsStore w.tso k (IntKind.i64.wrap (rg t i.b+i.c)) (rg t i.a)).2)
 | 18=>(w,pc1 t,0)
 | 19=>({ w with tso:=(tsLocked w.tso k 0 (rg t i.b) (rg t i.a) (rg t i.c)).1 },setR (pc1 t) i.a (tsLocked w.tso k 0 (rg t i.b) (rg t i.a) (rg t i.c)).2.1,(tsLocked w.tso k 0 (rg t i.b) (rg t i.a) (rg t i.c)).2.2)
 | 20=>({ w with tso:=(tsLocked w.tso k 1 (rg t i.b) (rg t i.a) 0).1 },setR (pc1 t) i.a (tsLocked w.tso k 1 (rg t i.b) (rg t i.a) 0).2.1,(tsLocked w.tso k 1 (rg t i.b) (rg t i.a) 0).2.2)
 | 21=>({ w with tso:=(tsLocked w.tso k 2 (rg t i.b) (rg t i.a) 0).1 },setR (pc1 t) i.a (tsLocked w.tso k 2 (rg t i.b) (rg t i.a) 0).2.1,(tsLocked w.tso k 2 (rg t i.b) (rg t i.a) 0).2.2)
 | 22=>cond (decide (0 < t.left.length)) (w,{ pc1 t with left:=[] },0) (w,{ t with left:=lens w.tso.bufs },0)
 | 23=>(w,pc1 t,0)
 | 24=>({ w with tso:={ w.tso with mem:=(mMark w.tso.mem (rg t i.a) (rg t i.b) 1).1 } },pc1 t,(mMark w.tso.mem (rg t i.a) (rg t i.b) 1).2)
 | 25=>({ w with tso:={ w.tso with mem:=(mMark w.tso.mem (rg t i.a) (rg t i.b) 2).1 } },pc1 t,(mMark w.tso.mem (rg t i.a) (rg t i.b) 2).2)
 | 26=>({ w with evs:=w.evs++[⟨i.a,k,[g0 t.regs 0,g0 t.regs 1,g0 t.regs 2,g0 t.regs 3]⟩] },pc1 t,0)
 | 27=>(w,t,3)
 | _=>(w,(loApply k i t).1,(loApply k i t).2)
def doOp (w:Wd) (k:Nat) (t:Thr) (i:Ins):Wd:=cond (decide ((doN w k t i).2.2=0)) (setT (doN w k t i).1 k (doN w k t i).2.1) (faultW w k (doN w k t i).2.2)
def doW (w:Wd) (k:Nat):Wd:=doOp w k (thrAt w k) (instrAt w (thrAt w k))
def inT (w:Wd) (k:Int):Bool:=inn k 0 (w.thr.length-1)
def stepW (w:Wd) (k:Int):Wd × Int:=cond (!wRight w) (wd0,1) (cond (!inT w k) (wd0,3) (cond (!canW w k.toNat) (wd0,9) (doW w k.toNat,0)))
def waned (k:Nat) (t:Thr):Thr:=cond (decide (0 < t.left.length)) { t with left:=t.left.set k (max (g0 t.left k-1) 0) } t
def flushD (w:Wd) (k:Nat) (p:Wput) (r:List Wput):Wd :=
 let x:Wd:={ w with tso:={ w.tso with bufs:=w.tso.bufs.set k r } }
 let y:Wd:=cond (decide ((mStore w.tso.mem p.loc p.val).2=0)) { x with tso:={ x.tso with mem:=(mStore w.tso.mem p.loc p.val).1 } } (cond (decide ((thrAt w k).state=2)) x (faultW x k (mStore w.tso.mem p.loc p.val).2))
 { y with thr:=y.thr.map (waned k) }
def flushW (w:Wd) (k:Int):Wd × Int:=cond (!wRight w) (wd0,1) (cond (!inT w k) (wd0,3) (match bufAt w.tso k.toNat with
 | []=>(wd0,8)
 | p::r=>(flushD w k.toNat p r,0)))
structure Act where
 kind:Int
 who:Int
 deriving DecidableEq,Inhabited
def actW (w:Wd) (a:Act):Wd × Bool:=match a.kind with
 | 0=>cond (decide ((stepW w a.who).2=0)) ((stepW w a.who).1,true) (w,false)
 | 1=>cond (decide ((flushW w a.who).2=0)) ((flushW w a.who).1,true) (w,false)
 | _=>(w,false)
def idleW (w:Wd):Bool:=(List.range w.tso.bufs.length).all fun k=>!canW w k&&decide ((bufAt w.tso k).length=0)
def roundW (w:Wd):Wd:=(List.range w.thr.length).foldl (fun (s:Wd) (k:Nat)=>(actW (actW s ⟨0,k⟩).1 ⟨1,k⟩).1) w
def roundsW (w:Wd):Nat→Wd × Nat
 | 0=>(w,0)
 | n+1=>cond (idleW w) (w,0) ((roundsW (roundW w) n).1,(roundsW (roundW w) n).2+1)
end Go.AL
end
section
set_option maxRecDepth 100000
namespace Go.AL
open Go Go.Proofs
attribute [local irreducible] J
theorem int_beq (a b:Int):(a == b)=decide (a=b):=rfl
theorem int_bne (a b:Int):(a != b) = !decide (a=b):=rfl
theorem dec_not {p q:Prop} [Decidable p] [Decidable q] (h:p↔¬q):decide p = !decide q:=by
 rw [←decide_not];exact decide_eq_decide.2 h
theorem zipAll {a b:List Int} {p:Int→Int→Bool} (h:a.length=b.length):((∀ q,q < a.length→p (at' a (q:Int)) (at' b (q:Int))=true)→((List.zip a b).all fun x=>p x.1 x.2)=true) ∧
  ∀ q,q < a.length→p (at' a (q:Int)) (at' b (q:Int))=false→((List.zip a b).all fun x=>p x.1 x.2)=false:=by
 refine ⟨fun hq=>?_,fun q hq hp=>?_⟩
 ·rw [List.all_eq_true]
  intro x hx
  obtain ⟨i,hi,rfl⟩:=List.getElem_of_mem hx
  have hi1:i < a.length:=by rw [List.length_zip] at hi;omega
  have:=hq i hi1
  rw [at_nat a i hi1,at_nat b i (by omega)] at this
  simpa using this
 ·rw [List.all_eq_false]
  refine ⟨(a[q],b[q]'(by omega)),?_,?_⟩
  ·have:(List.zip a b)[q]'(by rw [List.length_zip];omega)=(a[q],b[q]'(by omega)):=by simp
   rw [←this]
   exact List.getElem_mem _
  ·rw [at_nat a q hq,at_nat b q (by omega)] at hp
   simp [hp]
theorem mem_right (m:Mem) (hw:m.words.length≤1000000) (ht:m.tags.length≤1000000):ACalls Tryz.prog 56 [encMem m] [] (one (bv (mRight m)) []):=by
 obtain ⟨ws,ts⟩:=m
 simp only at hw ht
 have f1:decide (((ws.map iv).length:Int) < 1) = !decide (1≤ws.length):=by rw [List.length_map];exact dec_not (by omega)
 have f2:decide (((ws.map iv).length:Int) > 160) = !decide (ws.length≤160):=by rw [List.length_map];exact dec_not (by omega)
 have f3:(((ts.map iv).length:Int) != ((ws.map iv).length:Int)) = !decide (ts.length=ws.length):=by rw [List.length_map,List.length_map,int_bne];congr 1;exact decide_eq_decide.2 (by omega)
 unfold encMem mCells ivs mRight
 simp only
 cases b1:decide (1≤ws.length) with
 | false =>
  rw [b1] at f1
  refine jC Tryz.func56 Tryz.ntmps56 (fun w0 β0 ext hβ=>?_)
  repeat (first|refine jS ?_|refine jD ?_|refine jB ?_)
  rw [f1]
  repeat (first|refine jS ?_|refine jD ?_|refine jB ?_)
  exact jR
 | true =>
  rw [b1] at f1
  cases b2:decide (ws.length≤160) with
  | false =>
   rw [b2] at f2
   refine jC Tryz.func56 Tryz.ntmps56 (fun w0 β0 ext hβ=>?_)
   repeat (first|refine jS ?_|refine jD ?_|refine jB ?_)
   rw [f1]
   repeat (first|refine jS ?_|refine jD ?_|refine jB ?_)
   rw [f2]
   repeat (first|refine jS ?_|refine jD ?_|refine jB ?_)
   exact jR
  | true =>
   rw [b2] at f2
   cases b3:decide (ts.length=ws.length) with
   | false =>
    rw [b3] at f3
    refine jC Tryz.func56 Tryz.ntmps56 (fun w0 β0 ext hβ=>?_)
    repeat (first|refine jS ?_|refine jD ?_|refine jB ?_)
    rw [f1]
    repeat (first|refine jS ?_|refine jD ?_|refine jB ?_)
    rw [f2]
    repeat (first|refine jS ?_|refine jD ?_|refine jB ?_)
    rw [f3]
    repeat (first|refine jS ?_|refine jD ?_|refine jB ?_)
    exact jR
   | true =>
    rw [b3] at f3
    have hlen:ts.length=ws.length:=of_decide_eq_true b3
    obtain ⟨hz1,hz2⟩:=zipAll (p:=tagOk) hlen
    refine jC Tryz.func56 Tryz.ntmps56 (fun w0 β0 ext hβ=>?_)
    repeat (first|refine jS ?_|refine jD ?_|refine jB ?_)
    rw [f1]
    repeat (first|refine jS ?_|refine jD ?_|refine jB ?_)
    rw [f2]
    repeat (first|refine jS ?_|refine jD ?_|refine jB ?_)
    rw [f3]
    repeat (first|refine jS ?_|refine jD ?_|refine jB ?_)
    refine jloopI (fun k:Nat=>k≤ts.length∧∀ q,q < k→tagOk (at' ts (q:Int)) (at' ws (q:Int))=true) [1,25,26,27] (fun k=>[.ptr 0 0,.sl (ts.map iv),.v (.int .i64 ((ts.map iv).length:Int)),.v (.int .i64 (k:Int))])
     (fun _=>[.box 26 [.sl (ws.map iv),.sl (ts.map iv)]]) (fun k=>ts.length-k) 0 ⟨Nat.zero_le _,fun q h=>absurd h (by omega)⟩ rfl rfl (fun k hk=>?_)
    obtain ⟨hk,hok⟩:=hk
    repeat (first|refine jS ?_|refine jD ?_|refine jB ?_)
    refine jc rfl rfl rfl (fun h=>?_) (fun h=>?_)
    ·have h:=of_decide_eq_true h
     rw [List.length_map] at h
     have hk2:k < ts.length:=by omega
     have hkw:(k:Int) < ws.length:=by omega
     have hnx:∀ (w:Int),tagOk (at' ts (k:Int)) (at' ws (k:Int))=true→∀ q,q < k+1→tagOk (at' ts (q:Int)) (at' ws (q:Int))=true:=fun _ hb q hq=>by
      by_cases e:q=k
      ·subst e;exact hb
      ·exact hok q (by omega)
     have hno:=hz2 k hk2
     repeat (first|refine jS ?_|refine jD ?_|refine jB ?_|refine jI (Int.natCast_nonneg k) h ?_)
     have hidx:IntKind.i64.wrap ((k:Int)+1)=((k+1:Nat):Int):=idx_next hk2 (by omega)
     refine jc rfl rfl rfl (fun h0=>?_) (fun h0=>?_)
     ·repeat (first|refine jS ?_|refine jD ?_|refine jB ?_|refine jI (Int.natCast_nonneg k) hkw ?_)
      refine jc rfl rfl rfl (fun h1=>?_) (fun h1=>?_)
      ·repeat (first|refine jS ?_|refine jD ?_|refine jB ?_)
       rw [hno (by simp only [beq_iff_eq,bne_iff_ne] at h0 h1;simp [tagOk,h0,h1])]
       exact jR
      ·repeat (first|refine jS ?_|refine jD ?_|refine jB ?_)
       refine jnextI (k+1) ⟨by omega,hnx 0 (by simp only [beq_iff_eq,bne_eq_false_iff_eq] at h0 h1;simp [tagOk,h0,h1])⟩ ?_ rfl (by omega)
       show some _=some _
       rw [hidx]
     ·repeat (first|refine jS ?_|refine jD ?_|refine jB ?_)
      refine jc rfl rfl rfl (fun h1=>?_) (fun h1=>?_)
      ·repeat (first|refine jS ?_|refine jD ?_|refine jB ?_)
       refine jnextI (k+1) ⟨by omega,hnx 0 (by simp only [beq_iff_eq,beq_eq_false_iff_ne] at h0 h1;simp [tagOk,h1])⟩ ?_ rfl (by omega)
       show some _=some _
       rw [hidx]
      ·repeat (first|refine jS ?_|refine jD ?_|refine jB ?_)
       refine jc rfl rfl rfl (fun h2=>?_) (fun h2=>?_)
       ·repeat (first|refine jS ?_|refine jD ?_|refine jB ?_)
        refine jnextI (k+1) ⟨by omega,hnx 0 (by simp only [beq_iff_eq,beq_eq_false_iff_ne] at h0 h1 h2;simp [tagOk,h2])⟩ ?_ rfl (by omega)
        show some _=some _
        rw [hidx]
       ·repeat (first|refine jS ?_|refine jD ?_|refine jB ?_)
        rw [hno (by simp only [beq_eq_false_iff_ne] at h0 h1 h2;simp [tagOk,h0,h1,h2])]
        exact jR
    ·have h:=of_decide_eq_false h
     rw [List.length_map] at h
     rw [hz1 fun q hq=>hok q (by omega)]
     repeat (first|refine jS ?_|refine jD ?_|refine jB ?_)
     exact jR
theorem why_ok (t:Int) (h0:0≤t) (h2:t≤2):ACalls Tryz.prog 98 [iv t] [] (one (iv (why t)) []):=by
 rcases (by omega:t=0∨t=1∨t=2) with rfl|rfl|rfl
 all_goals (
  refine jC Tryz.func98 Tryz.ntmps98 (fun w0 β0 ext hβ=>?_)
  repeat (first|refine jS ?_|refine jD ?_|refine jB ?_|refine jo rfl rfl (index_agg rfl rfl rfl rfl rfl (by decide) (by decide) rfl) rfl rfl ?_)
 )
 all_goals exact jR
theorem mRight_iff (m:Mem):mRight m=true↔1≤m.words.length∧m.words.length≤160∧m.tags.length=m.words.length∧∀ q,q < m.tags.length→tagOk (at' m.tags (q:Int)) (at' m.words (q:Int))=true:=by
 unfold mRight
 simp only [Bool.and_eq_true,decide_eq_true_eq]
 constructor
 ·rintro ⟨a,b,c,d⟩
  refine ⟨a,b,c,fun q hq=>?_⟩
  cases h:tagOk (at' m.tags (q:Int)) (at' m.words (q:Int)) with
  | true=>rfl
  | false=>rw [(zipAll (p:=tagOk) c).2 q hq h] at d;cases d
 ·rintro ⟨a,b,c,d⟩
  exact ⟨a,b,c,(zipAll (p:=tagOk) c).1 d⟩
theorem tag_bd {t w:Int} (h:tagOk t w=true):0≤t∧t≤2:=by
 unfold tagOk at h
 simp at h
 omega
theorem g0_at {l:List Int} {k:Int}:g0 l k.toNat=at' l k:=rfl
theorem use_ok (m:Mem) (k:Int) (hr:mRight m=true):ACalls Tryz.prog 101 [encMem m,iv k] [] (one (iv (mUse m k)) []):=by
 obtain ⟨r1,r2,r3,r4⟩:=(mRight_iff m).1 hr
 have h1:=mem_right m (by omega) (by omega)
 rw [hr] at h1
 obtain ⟨ws,ts⟩:=m
 simp only at r1 r2 r3 r4
 unfold mUse
 simp only
 have hi1:inn k 0 (ws.length-1)=(!decide (k < 0) && !decide (k≥((ws.map iv).length:Int))):=by
  rw [List.length_map];unfold inn;rw [Bool.eq_iff_iff];simp;omega
 unfold encMem mCells ivs at *
 refine jC Tryz.func101 Tryz.ntmps101 (fun w0 β0 ext hβ=>?_)
 repeat (first|refine jS ?_|refine jD ?_|refine jB ?_|refine jV h1 ?_)
 cases b1:decide (k < 0) with
 | true =>
  rw [b1] at hi1
  rw [hi1]
  repeat (first|refine jS ?_|refine jD ?_|refine jB ?_)
  exact jR
 | false =>
  rw [b1] at hi1
  cases b2:decide (k≥((ws.map iv).length:Int)) with
  | true =>
   rw [b2] at hi1
   rw [hi1]
   repeat (first|refine jS ?_|refine jD ?_|refine jB ?_)
   rw [b2]
   repeat (first|refine jS ?_|refine jD ?_|refine jB ?_)
   exact jR
  | false =>
   rw [b2] at hi1
   rw [hi1]
   have c1:=of_decide_eq_false b1
   have c2:=of_decide_eq_false b2
   rw [List.length_map] at c2
   obtain ⟨q,rfl⟩:∃ q:Nat,k=q:=⟨k.toNat,by omega⟩
   have hb:=tag_bd (r4 q (by omega))
   have hw:=why_ok (at' ts (q:Int)) hb.1 hb.2
   have hq0:(q:Int) < ts.length:=by omega
   repeat (first|refine jS ?_|refine jD ?_|refine jB ?_)
   rw [b2]
   repeat (first|refine jS ?_|refine jD ?_|refine jB ?_|refine jI (Int.natCast_nonneg q) hq0 ?_|refine jV hw ?_)
   exact jR
theorem put_at {α:Type} {enc:α→AVal} {l:List α} {i:Nat} {y:AVal} {v:α} (h:elemSet y 0 (enc v).cells=enc v):(l.map enc).set (i:Int).toNat (elemSet y 0 (enc v).cells)=(l.set i v).map enc:=by
 rw [h,Int.toNat_natCast,List.map_set]
theorem elems_iv (l:List Int):ElemsOk 1 (l.map iv):=by
 intro y hy
 obtain ⟨a,_,rfl⟩:=List.mem_map.1 hy
 exact ⟨rfl,rfl⟩
theorem copied_ok (l:List Int) (hl:l.length≤1000000):ACalls Tryz.prog 97 [ivs l] [] (one (.arr 0 1) [.arr 1 3 1 (l.map iv)]):=by
 unfold ivs
 refine jC Tryz.func97 Tryz.ntmps97 (fun w0 β0 ext hβ=>?_)
 repeat (first|refine jS ?_|refine jD ?_|refine jB ?_)
 refine jo rfl rfl (make_own l.length (n:=((l.map iv).length:Int)) rfl rfl (by rw [List.length_map]) rfl rfl rfl rfl rfl rfl rfl (by decide) (by omega) rfl rfl) rfl rfl ?_
 repeat (first|refine jS ?_|refine jD ?_|refine jB ?_)
 refine jo rfl rfl (copy_own rfl rfl rfl rfl rfl rfl rfl rfl (fun y hy=>by rw [List.eq_of_mem_replicate hy];exact ⟨rfl,rfl⟩) (elems_iv l) (by simp) rfl) rfl rfl ?_
 repeat (first|refine jS ?_|refine jD ?_|refine jB ?_)
 exact jret [0] true rfl rfl rfl ⟨rfl,rfl⟩
theorem load_ok (m:Mem) (k:Int) (hr:mRight m=true):ACalls Tryz.prog 154 [encMem m,iv k] [] (one (.tup [iv (mLoad m k).1,iv (mLoad m k).2]) []):=by
 have hu:=use_ok m k hr
 obtain ⟨r1,r2,r3,r4⟩:=(mRight_iff m).1 hr
 have hk:mUse m k=0→0≤k∧k < m.words.length:=fun h=>by
  unfold mUse at h
  cases hi:inn k 0 (m.words.length-1) with
  | false=>rw [hi] at h;cases h
  | true=>have:=inn_iff.1 hi;omega
 unfold mLoad
 generalize mUse m k=e at *
 obtain ⟨ws,ts⟩:=m
 simp only at r1 r2 r3 r4 hk
 unfold encMem mCells ivs at *
 simp only at hu ⊢
 have hd:(e != 0) = !decide (e=0):=rfl
 cases he:decide (e=0) with
 | false =>
  rw [he] at hd
  refine jC Tryz.func154 Tryz.ntmps154 (fun w0 β0 ext hβ=>?_)
  repeat (first|refine jS ?_|refine jD ?_|refine jB ?_|refine jV hu ?_)
  rw [hd]
  repeat (first|refine jS ?_|refine jD ?_|refine jB ?_)
  exact jR
 | true =>
  rw [he] at hd
  obtain ⟨k1,k2⟩:=hk (of_decide_eq_true he)
  refine jC Tryz.func154 Tryz.ntmps154 (fun w0 β0 ext hβ=>?_)
  repeat (first|refine jS ?_|refine jD ?_|refine jB ?_|refine jV hu ?_)
  rw [hd]
  repeat (first|refine jS ?_|refine jD ?_|refine jB ?_|refine jI k1 k2 ?_)
  exact jR
theorem store_ok (m:Mem) (k v:Int) (hr:mRight m=true):ACalls Tryz.prog 57 [encMem m,iv k,iv v] [] (one (.tup [encMem (mStore m k v).1,iv (mStore m k v).2]) []):=by
 have hu:=use_ok m k hr
 obtain ⟨r1,r2,r3,r4⟩:=(mRight_iff m).1 hr
 have hk:mUse m k=0→0≤k∧k < m.words.length:=fun h=>by
  unfold mUse at h
  cases hi:inn k 0 (m.words.length-1) with
  | false=>rw [hi] at h;cases h
  | true=>have:=inn_iff.1 hi;omega
 unfold mStore
 generalize mUse m k=e at *
 obtain ⟨ws,ts⟩:=m
 simp only at r1 r2 r3 r4 hk
 have hc:=copied_ok ws (by omega)
 unfold encMem mCells ivs at *
 simp only at hu ⊢
 have hd:(e != 0) = !decide (e=0):=rfl
 cases he:decide (e=0) with
 | false =>
  rw [he] at hd
  refine jC Tryz.func57 Tryz.ntmps57 (fun w0 β0 ext hβ=>?_)
  repeat (first|refine jS ?_|refine jD ?_|refine jB ?_|refine jV hu ?_)
  rw [hd]
  repeat (first|refine jS ?_|refine jD ?_|refine jB ?_)
  exact jR
 | true =>
  rw [he] at hd
  obtain ⟨k1,k2⟩:=hk (of_decide_eq_true he)
  obtain ⟨q,rfl⟩:∃ q:Nat,k=q:=⟨k.toNat,by omega⟩
  refine jC Tryz.func57 Tryz.ntmps57 (fun w0 β0 ext hβ=>?_)
  repeat (first|refine jS ?_|refine jD ?_|refine jB ?_|refine jV hu ?_)
  rw [hd]
  repeat (first|refine jS ?_|refine jD ?_|refine jB ?_)
  refine jBb [] hc ?_
  repeat (first|refine jS ?_|refine jD ?_|refine jB ?_)
  refine jo rfl rfl (index_own (xs:=ws.map iv) (n:=(q:Int)) rfl rfl rfl rfl rfl rfl k1 (by simp only [List.length_map];exact k2)) rfl rfl ?_
  refine jo rfl rfl (store_enc (enc:=iv) (l:=ws) (l':=ws.set q v) rfl rfl rfl (map_at (by omega)) rfl rfl rfl rfl rfl (Nat.le_of_ble_eq_true rfl) (.inr ⟨rfl,rfl⟩) (put_at (enc:=iv) rfl) rfl) rfl rfl ?_
  repeat (first|refine jS ?_|refine jD ?_|refine jB ?_)
  exact jR
theorem mkTags_len {tags:List Int} {k n:Nat} {tag:Int} (h:k+n≤tags.length):(mkTags tags k n tag).length=tags.length:=by
 unfold mkTags
 simp only [List.length_append,List.length_take,List.length_replicate,List.length_drop];omega
theorem mkTags_get {tags:List Int} {k n:Nat} {tag:Int} (h:k+n < tags.length):at' (mkTags tags k n tag) ((k+n:Nat):Int)=at' tags ((k+n:Nat):Int):=by
 rw [at_nat _ _ (by rw [mkTags_len (by omega)];exact h),at_nat _ _ h]
 unfold mkTags
 rw [List.getElem_append_right (by simp;omega)]
 simp only [List.length_append,List.length_take,List.length_replicate,List.getElem_drop]
 congr 1;omega
theorem mkTags_succ {tags:List Int} {k n:Nat} {tag:Int} (h:k+n < tags.length):(mkTags tags k n tag).set (k+n) tag=mkTags tags k (n+1) tag:=by
 unfold mkTags
 have e1:tags.drop (k+n)=tags[k+n]::tags.drop (k+n+1):=by rw [List.drop_eq_getElem_cons h]
 rw [List.set_append_right _ _ (by simp;omega),e1]
 have e2:k+n-(tags.take k++List.replicate n tag).length=0:=by simp;omega
 rw [e2,List.set_cons_zero,List.replicate_succ',List.append_assoc,List.append_assoc,List.append_assoc]
 rfl
theorem mkBad_stop {tags:List Int} {k i:Nat} {tag:Int} (h0:mkBad tags k tag i=0) (h:mkE tag (g0 tags (k+i))≠0):∀ n,mkBad tags k tag (i+1+n)=mkE tag (g0 tags (k+i))
 | 0=>by rw [Nat.add_zero,mkBad,h0];rfl
 | n+1=>by
  have ih:=mkBad_stop h0 h n
  rw [←Nat.add_assoc,mkBad,ih,decide_eq_false h];rfl
theorem mkBad_go {tags:List Int} {k i:Nat} {tag:Int} (h0:mkBad tags k tag i=0) (h:mkE tag (g0 tags (k+i))=0):mkBad tags k tag (i+1)=0:=by
 rw [mkBad,h0,h];rfl
theorem mark_ok (m:Mem) (k n tag:Int) (hr:mRight m=true) (ht:tag=1∨tag=2):ACalls Tryz.prog 52 [encMem m,iv k,iv n,iv tag] [] (one (.tup [encMem (mMark m k n tag).1,iv (mMark m k n tag).2]) []):=by
 have h1:=mem_right m (by obtain ⟨r1,r2,r3,r4⟩:=(mRight_iff m).1 hr;omega) (by obtain ⟨r1,r2,r3,r4⟩:=(mRight_iff m).1 hr;omega)
 rw [hr] at h1
 obtain ⟨r1,r2,r3,r4⟩:=(mRight_iff m).1 hr
 obtain ⟨ws,ts⟩:=m
 simp only at r1 r2 r3 r4
 have hc:=copied_ok ts (by omega)
 unfold mMark
 simp only
 unfold encMem mCells ivs at *
 simp only at h1 hc ⊢
 by_cases g:1≤n∧0≤k∧k < ws.length∧n≤ws.length-k
 ·obtain ⟨q,rfl⟩:∃ q:Nat,k=q:=⟨k.toNat,by omega⟩
  obtain ⟨n,rfl⟩:∃ p:Nat,n=p:=⟨n.toNat,by omega⟩
  have e0:(decide (1≤(n:Int))&&(inn (q:Int) 0 (ws.length-1)&&decide ((n:Int)≤ws.length-(q:Int))))=true:=by
   unfold inn;simp only [Bool.and_eq_true,decide_eq_true_eq];omega
  rw [e0]
  simp only [cond_true,Int.toNat_natCast]
  have c1:decide ((n:Int) < 1)=false:=decide_eq_false (by omega)
  have c2:decide ((q:Int) < 0)=false:=decide_eq_false (by omega)
  have c3:decide ((q:Int)≥((ws.map iv).length:Int))=false:=decide_eq_false (by rw [List.length_map];omega)
  have c4:decide ((n:Int) > IntKind.i64.wrap (((ws.map iv).length:Int)-q))=false:=decide_eq_false (by rw [List.length_map,wrap_id]<;>omega)
  have hle:q+n≤ts.length:=by omega
  have htl:ts.length≤160:=by omega
  have mk0:∀ t,mkTags ts q 0 t=ts:=fun t=>by simp [mkTags]
  rcases ht with rfl|rfl
  ·refine jC Tryz.func52 Tryz.ntmps52 (fun w0 β0 ext hβ=>?_)
   repeat (first|refine jS ?_|refine jD ?_|refine jB ?_|refine jV h1 ?_)
   rw [c1]
   repeat (first|refine jS ?_|refine jD ?_|refine jB ?_)
   rw [c2]
   repeat (first|refine jS ?_|refine jD ?_|refine jB ?_)
   rw [c3]
   repeat (first|refine jS ?_|refine jD ?_|refine jB ?_)
   rw [c4]
   repeat (first|refine jS ?_|refine jD ?_|refine jB ?_)
   refine jBb [] hc ?_
   repeat (first|refine jS ?_|refine jD ?_|refine jB ?_)
   refine jloopI (fun i:Nat=>i≤n∧mkBad ts q 1 i=0) [1,3,4,8,54,55] (fun i=>[iv (q:Int),iv 1,.ptr 0 0,.ptr 1 0,iv (n:Int),iv (i:Int)])
    (fun i=>[.box 26 [.sl (ws.map iv),.arr 2 1],.box 26 [.slf [],.slf []],.arr 1 3 1 ((mkTags ts q i 1).map iv)]) (fun i=>n-i) 0 ⟨Nat.zero_le _,rfl⟩ rfl ?_ (fun i hi=>?_)
   ·rw [mk0]
   obtain ⟨hi,hz⟩:=hi
   repeat (first|refine jS ?_|refine jD ?_|refine jB ?_)
   refine jc rfl rfl rfl (fun h=>?_) (fun h=>?_)
   ·have h:=of_decide_eq_true h
    have hi2:i < n:=by omega
    have hadd:IntKind.i64.wrap ((q:Int)+i)=((q+i:Nat):Int):=by rw [wrap_id]<;>omega
    have hidx:IntKind.i64.wrap ((i:Int)+1)=((i+1:Nat):Int):=idx_next hi2 (by omega)
    have hln:=mkTags_len (tags:=ts) (k:=q) (n:=i) (tag:=1) (by omega)
    have hgt:=mkTags_get (tags:=ts) (k:=q) (n:=i) (tag:=1) (by omega)
    have hsu:=mkTags_succ (tags:=ts) (k:=q) (n:=i) (tag:=1) (by omega)
    have hg0:g0 ts (q+i)=at' ts ((q+i:Nat):Int):=by rw [←g0_at,Int.toNat_natCast]
    have hbd:=tag_bd (r4 (q+i) (by omega))
    have hwy:=why_ok _ hbd.1 hbd.2
    have hst:=fun h=>mkBad_stop (tags:=ts) (k:=q) (tag:=1) hz h (n-(i+1))
    rw [show i+1+(n-(i+1))=n by omega,hg0] at hst
    have hgo:=fun h=>mkBad_go (tags:=ts) (k:=q) (tag:=1) hz h
    rw [hg0] at hgo
    generalize hT:at' ts ((q+i:Nat):Int)=T at *
    repeat (first|refine jS ?_|refine jD ?_|refine jB ?_)
    rw [hadd]
    refine jo rfl rfl (index_own rfl rfl rfl rfl rfl rfl (by omega) (by simp only [List.length_map];omega)) rfl rfl ?_
    refine jo rfl rfl (load_own (v:=iv T) rfl rfl (by rw [map_at (by omega),hgt]) rfl rfl rfl) rfl rfl ?_
    repeat (first|refine jS ?_|refine jD ?_|refine jB ?_|refine jV hwy ?_)
    refine jc rfl rfl rfl (fun h0=>?_) (fun h0=>?_)
    ·repeat (first|refine jS ?_|refine jD ?_|refine jB ?_)
     have hv:mkE 1 T=6:=by rw [beq_iff_eq] at h0;rw [h0];rfl
     have hB:=hst (by rw [hv];decide)
     rw [hv] at hB
     have hB0:decide (mkBad ts q 1 n=0)=false:=decide_eq_false (by rw [hB];decide)
     rw [hB0]
     simp only [cond_false]
     rw [hB]
     exact jR
    ·repeat (first|refine jS ?_|refine jD ?_|refine jB ?_|refine jV hwy ?_)
     rw [hadd]
     refine jo rfl rfl (index_own rfl rfl rfl rfl rfl rfl (by omega) (by simp only [List.length_map];omega)) rfl rfl ?_
     refine jo rfl rfl (store_enc (enc:=iv) (l:=mkTags ts q i 1) (l':=mkTags ts q (i+1) 1) rfl rfl rfl (map_at (by omega)) rfl rfl rfl rfl rfl (Nat.le_of_ble_eq_true rfl) (.inr ⟨rfl,rfl⟩) (by rw [put_at (enc:=iv) rfl,hsu]) rfl) rfl rfl ?_
     repeat (first|refine jS ?_|refine jD ?_|refine jB ?_)
     refine jnextI (i+1) ⟨by omega,hgo (by rw [beq_eq_false_iff_ne] at h0;unfold mkE;rw [decide_eq_false h0];rfl)⟩ ?_ rfl (by omega)
     show some _=some _
     rw [hidx]
     rfl
   ·have h:=of_decide_eq_false h
    have:i=n:=by omega
    subst this
    have hB0:decide (mkBad ts q 1 i=0)=true:=decide_eq_true hz
    rw [hB0]
    simp only [cond_true]
    repeat (first|refine jS ?_|refine jD ?_|refine jB ?_)
    exact jR
  ·refine jC Tryz.func52 Tryz.ntmps52 (fun w0 β0 ext hβ=>?_)
   repeat (first|refine jS ?_|refine jD ?_|refine jB ?_|refine jV h1 ?_)
   rw [c1]
   repeat (first|refine jS ?_|refine jD ?_|refine jB ?_)
   rw [c2]
   repeat (first|refine jS ?_|refine jD ?_|refine jB ?_)
   rw [c3]
   repeat (first|refine jS ?_|refine jD ?_|refine jB ?_)
   rw [c4]
   repeat (first|refine jS ?_|refine jD ?_|refine jB ?_)
   refine jBb [] hc ?_
   repeat (first|refine jS ?_|refine jD ?_|refine jB ?_)
   refine jloopI (fun i:Nat=>i≤n∧mkBad ts q 2 i=0) [1,3,4,8,54,55] (fun i=>[iv (q:Int),iv 2,.ptr 0 0,.ptr 1 0,iv (n:Int),iv (i:Int)])
    (fun i=>[.box 26 [.sl (ws.map iv),.arr 2 1],.box 26 [.slf [],.slf []],.arr 1 3 1 ((mkTags ts q i 2).map iv)]) (fun i=>n-i) 0 ⟨Nat.zero_le _,rfl⟩ rfl ?_ (fun i hi=>?_)
   ·rw [mk0]
   obtain ⟨hi,hz⟩:=hi
   repeat (first|refine jS ?_|refine jD ?_|refine jB ?_)
   refine jc rfl rfl rfl (fun h=>?_) (fun h=>?_)
   ·have h:=of_decide_eq_true h
    have hi2:i < n:=by omega
    have hadd:IntKind.i64.wrap ((q:Int)+i)=((q+i:Nat):Int):=by rw [wrap_id]<;>omega
    have hidx:IntKind.i64.wrap ((i:Int)+1)=((i+1:Nat):Int):=idx_next hi2 (by omega)
    have hln:=mkTags_len (tags:=ts) (k:=q) (n:=i) (tag:=2) (by omega)
    have hgt:=mkTags_get (tags:=ts) (k:=q) (n:=i) (tag:=2) (by omega)
    have hsu:=mkTags_succ (tags:=ts) (k:=q) (n:=i) (tag:=2) (by omega)
    have hg0:g0 ts (q+i)=at' ts ((q+i:Nat):Int):=by rw [←g0_at,Int.toNat_natCast]
    have hbd:=tag_bd (r4 (q+i) (by omega))
    have hwy:=why_ok _ hbd.1 hbd.2
    have hst:=fun h=>mkBad_stop (tags:=ts) (k:=q) (tag:=2) hz h (n-(i+1))
    rw [show i+1+(n-(i+1))=n by omega,hg0] at hst
    have hgo:=fun h=>mkBad_go (tags:=ts) (k:=q) (tag:=2) hz h
    rw [hg0] at hgo
    generalize hT:at' ts ((q+i:Nat):Int)=T at *
    repeat (first|refine jS ?_|refine jD ?_|refine jB ?_)
    rw [hadd]
    refine jo rfl rfl (index_own rfl rfl rfl rfl rfl rfl (by omega) (by simp only [List.length_map];omega)) rfl rfl ?_
    refine jo rfl rfl (load_own (v:=iv T) rfl rfl (by rw [map_at (by omega),hgt]) rfl rfl rfl) rfl rfl ?_
    repeat (first|refine jS ?_|refine jD ?_|refine jB ?_|refine jV hwy ?_)
    refine jc rfl rfl rfl (fun h0=>?_) (fun h0=>?_)
    ·repeat (first|refine jS ?_|refine jD ?_|refine jB ?_)
     have hv:why T≠0:=by rw [bne_iff_ne] at h0;exact h0
     have hB:=hst hv
     have hB0:decide (mkBad ts q 2 n=0)=false:=decide_eq_false (by rw [hB];exact hv)
     rw [hB0]
     simp only [cond_false]
     rw [hB]
     exact jR
    ·repeat (first|refine jS ?_|refine jD ?_|refine jB ?_|refine jV hwy ?_)
     rw [hadd]
     refine jo rfl rfl (index_own rfl rfl rfl rfl rfl rfl (by omega) (by simp only [List.length_map];omega)) rfl rfl ?_
     refine jo rfl rfl (store_enc (enc:=iv) (l:=mkTags ts q i 2) (l':=mkTags ts q (i+1) 2) rfl rfl rfl (map_at (by omega)) rfl rfl rfl rfl rfl (Nat.le_of_ble_eq_true rfl) (.inr ⟨rfl,rfl⟩) (by rw [put_at (enc:=iv) rfl,hsu]) rfl) rfl rfl ?_
     repeat (first|refine jS ?_|refine jD ?_|refine jB ?_)
     refine jnextI (i+1) ⟨by omega,hgo (by rw [bne_eq_false_iff_eq] at h0;exact h0)⟩ ?_ rfl (by omega)
     show some _=some _
     rw [hidx]
     rfl
   ·have h:=of_decide_eq_false h
    have:i=n:=by omega
    subst this
    have hB0:decide (mkBad ts q 2 i=0)=true:=decide_eq_true hz
    rw [hB0]
    simp only [cond_true]
    repeat (first|refine jS ?_|refine jD ?_|refine jB ?_)
    exact jR
 ·have e0:(decide (1≤n)&&(inn k 0 (ws.length-1)&&decide (n≤ws.length-k)))=false:=by
   rw [Bool.eq_false_iff];intro h;apply g
   unfold inn at h;simp only [Bool.and_eq_true,decide_eq_true_eq] at h;omega
  rw [e0]
  have hml:((ws.map iv).length:Int)=ws.length:=by rw [List.length_map]
  have hwr:0≤k→k < ws.length→IntKind.i64.wrap (((ws.map iv).length:Int)-k)=ws.length-k:=fun a b=>by rw [hml,wrap_id]<;>omega
  rcases ht with rfl|rfl
  all_goals (
   refine jC Tryz.func52 Tryz.ntmps52 (fun w0 β0 ext hβ=>?_)
   repeat' (first|refine jS ?_|refine jD ?_|refine jB ?_|refine jV h1 ?_|refine jo rfl rfl (index_at rfl rfl rfl rfl rfl rfl rfl rfl (by omega) (by omega)) rfl rfl ?_|(refine jc rfl rfl rfl (fun h=>?_) (fun h=>?_)<;>(try simp only [decide_eq_true_eq,decide_eq_false_iff_not,beq_iff_eq,beq_eq_false_iff_ne,bne_iff_ne,bne_eq_false_iff_eq,ne_eq] at h)<;>(try (exfalso;omega)))|(refine jg rfl rfl rfl rfl (fun h=>?_) (fun h=>?_)<;>(fail_if_success (exact absurd h (by decide)))<;>(try simp only [decide_eq_true_eq,decide_eq_false_iff_not,beq_iff_eq,beq_eq_false_iff_ne,bne_iff_ne,bne_eq_false_iff_eq,ne_eq] at h)<;>(try (exfalso;omega))))
  )
  all_goals exact jR
end Go.AL
end
section
set_option maxRecDepth 100000
namespace Go.AL
open Go Go.Proofs
attribute [local irreducible] J
theorem elems_put (l:List (Wput)):ElemsOk 2 (l.map encPut):=by
 intro y hy
 obtain ⟨a,_,rfl⟩:=List.mem_map.1 hy
 exact ⟨rfl,rfl⟩
theorem clone_put_v (l:List (Wput)) (hl:l.length≤1000):ACalls Tryz.prog 197 [.sl (l.map encPut)] [] (one (.sl (l.map encPut)) []):=by
 refine jC Tryz.func197 Tryz.ntmps197 (fun w0 β0 ext hβ=>?_)
 repeat (first|refine jS ?_|refine jD ?_|refine jB ?_)
 refine jq rfl rfl rfl (eq_nil rfl rfl rfl rfl) ?_
 rintro r H' ⟨⟨b,rfl,hb⟩,rfl⟩
 refine ⟨_,rfl,?_⟩
 repeat (first|refine jS ?_|refine jD ?_|refine jB ?_)
 refine jif rfl (fun h=>?_) (fun h=>?_)
 ·rw [hb h]
  repeat (first|refine jS ?_|refine jD ?_|refine jB ?_)
  exact jR
 ·by_cases h0:l=[]
  ·subst h0
   repeat (first|refine jS ?_|refine jD ?_|refine jB ?_)
   refine jo (kd:=.m) rfl rfl (append_nil rfl rfl (SrcOf.sl rfl) rfl rfl rfl rfl rfl) rfl rfl ?_
   repeat (first|refine jS ?_|refine jD ?_|refine jB ?_)
   exact jR
  ·repeat (first|refine jS ?_|refine jD ?_|refine jB ?_)
   refine jo rfl rfl (append_new rfl rfl (.sl rfl) rfl rfl rfl rfl rfl (fun y hy=>by cases hy) (elems_put l) rfl (by simpa using h0) (by simp [ty222];omega) (by simp;omega)) rfl rfl ?_
   repeat (first|refine jS ?_|refine jD ?_|refine jB ?_)
   exact jR
theorem elems_buf (l:List (List Wput)):ElemsOk 1 (l.map encBuf):=by
 intro y hy
 obtain ⟨a,_,rfl⟩:=List.mem_map.1 hy
 exact ⟨rfl,rfl⟩
theorem clone_buf (l:List (List Wput)) (h0:l≠[]) (hl:l.length≤1000):ACalls Tryz.prog 149 [.sl (l.map encBuf)] [] (one (.arr 0 1) [.arr 1 159 1 (l.map encBuf)]):=by
 refine jC Tryz.func149 Tryz.ntmps149 (fun w0 β0 ext hβ=>?_)
 repeat (first|refine jS ?_|refine jD ?_|refine jB ?_)
 refine jq rfl rfl rfl (eq_nil rfl rfl rfl rfl) ?_
 rintro r H' ⟨⟨b,rfl,hb⟩,rfl⟩
 refine ⟨_,rfl,?_⟩
 have hb:b=false:=by
  cases b with
  | false=>rfl
  | true=>exact absurd (by simpa using hb rfl) h0
 subst hb
 repeat (first|refine jS ?_|refine jD ?_|refine jB ?_)
 refine jo rfl rfl (append_new rfl rfl (.sl rfl) rfl rfl rfl rfl rfl (fun y hy=>by cases hy) (elems_buf l) rfl (by simpa using h0) (by simp [ty159];omega) (by simp;omega)) rfl rfl ?_
 repeat (first|refine jS ?_|refine jD ?_|refine jB ?_)
 exact jret [0] true rfl rfl rfl ⟨rfl,rfl⟩
theorem elems_thr (l:List (Thr)):ElemsOk 13 (l.map encThr):=by
 intro y hy
 obtain ⟨a,_,rfl⟩:=List.mem_map.1 hy
 exact ⟨rfl,rfl⟩
theorem clone_thr (l:List (Thr)) (h0:l≠[]) (hl:l.length≤1000):ACalls Tryz.prog 198 [.sl (l.map encThr)] [] (one (.arr 0 1) [.arr 1 43 13 (l.map encThr)]):=by
 refine jC Tryz.func198 Tryz.ntmps198 (fun w0 β0 ext hβ=>?_)
 repeat (first|refine jS ?_|refine jD ?_|refine jB ?_)
 refine jq rfl rfl rfl (eq_nil rfl rfl rfl rfl) ?_
 rintro r H' ⟨⟨b,rfl,hb⟩,rfl⟩
 refine ⟨_,rfl,?_⟩
 have hb:b=false:=by
  cases b with
  | false=>rfl
  | true=>exact absurd (by simpa using hb rfl) h0
 subst hb
 repeat (first|refine jS ?_|refine jD ?_|refine jB ?_)
 refine jo rfl rfl (append_new rfl rfl (.sl rfl) rfl rfl rfl rfl rfl (fun y hy=>by cases hy) (elems_thr l) rfl (by simpa using h0) (by simp [ty43];omega) (by simp;omega)) rfl rfl ?_
 repeat (first|refine jS ?_|refine jD ?_|refine jB ?_)
 exact jret [0] true rfl rfl rfl ⟨rfl,rfl⟩
theorem elems_int (l:List (Int)):ElemsOk 1 (l.map iv):=by
 intro y hy
 obtain ⟨a,_,rfl⟩:=List.mem_map.1 hy
 exact ⟨rfl,rfl⟩
theorem clone_int (l:List (Int)) (h0:l≠[]) (hl:l.length≤1000):ACalls Tryz.prog 199 [.sl (l.map iv)] [] (one (.arr 0 1) [.arr 1 3 1 (l.map iv)]):=by
 refine jC Tryz.func199 Tryz.ntmps199 (fun w0 β0 ext hβ=>?_)
 repeat (first|refine jS ?_|refine jD ?_|refine jB ?_)
 refine jq rfl rfl rfl (eq_nil rfl rfl rfl rfl) ?_
 rintro r H' ⟨⟨b,rfl,hb⟩,rfl⟩
 refine ⟨_,rfl,?_⟩
 have hb:b=false:=by
  cases b with
  | false=>rfl
  | true=>exact absurd (by simpa using hb rfl) h0
 subst hb
 repeat (first|refine jS ?_|refine jD ?_|refine jB ?_)
 refine jo rfl rfl (append_new rfl rfl (.sl rfl) rfl rfl rfl rfl rfl (fun y hy=>by cases hy) (elems_int l) rfl (by simpa using h0) (by simp [ty3];omega) (by simp;omega)) rfl rfl ?_
 repeat (first|refine jS ?_|refine jD ?_|refine jB ?_)
 exact jret [0] true rfl rfl rfl ⟨rfl,rfl⟩
theorem elems_frm (l:List (Frm)):ElemsOk 5 (l.map encFrm):=by
 intro y hy
 obtain ⟨a,_,rfl⟩:=List.mem_map.1 hy
 exact ⟨rfl,rfl⟩
theorem clone_frm_v (l:List (Frm)) (hl:l.length≤1000):ACalls Tryz.prog 267 [.sl (l.map encFrm)] [] (one (.sl (l.map encFrm)) []):=by
 refine jC Tryz.func267 Tryz.ntmps267 (fun w0 β0 ext hβ=>?_)
 repeat (first|refine jS ?_|refine jD ?_|refine jB ?_)
 refine jq rfl rfl rfl (eq_nil rfl rfl rfl rfl) ?_
 rintro r H' ⟨⟨b,rfl,hb⟩,rfl⟩
 refine ⟨_,rfl,?_⟩
 repeat (first|refine jS ?_|refine jD ?_|refine jB ?_)
 refine jif rfl (fun h=>?_) (fun h=>?_)
 ·rw [hb h]
  repeat (first|refine jS ?_|refine jD ?_|refine jB ?_)
  exact jR
 ·by_cases h0:l=[]
  ·subst h0
   repeat (first|refine jS ?_|refine jD ?_|refine jB ?_)
   refine jo (kd:=.m) rfl rfl (append_nil rfl rfl (SrcOf.sl rfl) rfl rfl rfl rfl rfl) rfl rfl ?_
   repeat (first|refine jS ?_|refine jD ?_|refine jB ?_)
   exact jR
  ·repeat (first|refine jS ?_|refine jD ?_|refine jB ?_)
   refine jo rfl rfl (append_new rfl rfl (.sl rfl) rfl rfl rfl rfl rfl (fun y hy=>by cases hy) (elems_frm l) rfl (by simpa using h0) (by simp [ty174];omega) (by simp;omega)) rfl rfl ?_
   repeat (first|refine jS ?_|refine jD ?_|refine jB ?_)
   exact jR
theorem clip_evt (l:List (Evt)):ACalls Tryz.prog 196 [.sl (l.map encEvt)] [] (one (.slf (l.map encEvt)) []):=by
 have hel:ElemsOk 6 (l.map encEvt):=by
  intro y hy
  obtain ⟨a,_,rfl⟩:=List.mem_map.1 hy
  exact ⟨rfl,rfl⟩
 refine jC Tryz.func196 Tryz.ntmps196 (fun w0 β0 ext hβ=>?_)
 repeat (first|refine jS ?_|refine jD ?_|refine jB ?_)
 refine jo rfl rfl (cut_full rfl rfl rfl rfl rfl rfl rfl rfl hel (Int.le_refl 0) (Int.natCast_nonneg _) (Int.le_refl _)) rfl rfl ?_
 rw [show List.take (((l.map encEvt).length:Int).toNat-(0:Int).toNat) (List.drop (0:Int).toNat (l.map encEvt))=l.map encEvt by rw [List.take_of_length_le (by simp)];simp]
 repeat (first|refine jS ?_|refine jD ?_|refine jB ?_)
 exact jret [] false rfl rfl rfl ⟨rfl,rfl⟩
theorem clip_frm (l:List (Frm)):ACalls Tryz.prog 266 [.sl (l.map encFrm)] [] (one (.slf (l.map encFrm)) []):=by
 have hel:ElemsOk 5 (l.map encFrm):=by
  intro y hy
  obtain ⟨a,_,rfl⟩:=List.mem_map.1 hy
  exact ⟨rfl,rfl⟩
 refine jC Tryz.func266 Tryz.ntmps266 (fun w0 β0 ext hβ=>?_)
 repeat (first|refine jS ?_|refine jD ?_|refine jB ?_)
 refine jo rfl rfl (cut_full rfl rfl rfl rfl rfl rfl rfl rfl hel (Int.le_refl 0) (Int.natCast_nonneg _) (Int.le_refl _)) rfl rfl ?_
 rw [show List.take (((l.map encFrm).length:Int).toNat-(0:Int).toNat) (List.drop (0:Int).toNat (l.map encFrm))=l.map encFrm by rw [List.take_of_length_le (by simp)];simp]
 repeat (first|refine jS ?_|refine jD ?_|refine jB ?_)
 exact jret [] false rfl rfl rfl ⟨rfl,rfl⟩
end Go.AL
end
section
set_option maxRecDepth 100000
namespace Go.AL
open Go Go.Proofs
attribute [local irreducible] J
def fidxG {α:Type} (p:α→Bool) (l:List α):Int:=match l.findIdx? p with|some i=>i|none=>-1
theorem at_mem {α:Type} [Inhabited α] {l:List α} {k:Nat} (h:k < l.length):at' l (k:Int)∈l:=by
 rw [at_nat l k h];exact List.getElem_mem h
theorem fidxG_some {α:Type} [Inhabited α] {p:α→Bool} {l:List α} {k:Nat} (h:k < l.length) (hb:p (at' l (k:Int))=true) (hok:∀ q,q < k→p (at' l (q:Int))=false):fidxG p l=(k:Int):=by
 unfold fidxG
 rw [at_nat l k h] at hb
 rw [List.findIdx?_eq_some_iff_getElem.2 ⟨h,hb,fun j hj=>by
  have e2:=hok j hj
  rw [at_nat l j (by omega)] at e2
  simp [e2]⟩]
theorem fidxG_none {α:Type} [Inhabited α] {p:α→Bool} {l:List α} (hok:∀ q,q < l.length→p (at' l (q:Int))=false):fidxG p l = -1:=by
 unfold fidxG
 rw [List.findIdx?_eq_none_iff.2 fun x hx=>?_]
 obtain ⟨i,hi,rfl⟩:=List.getElem_of_mem hx
 have e2:=hok i hi
 rw [at_nat l i hi] at e2
 exact e2
theorem fidxG_any {α:Type} (p:α→Bool) (l:List α):decide (fidxG p l≥0)=l.any p:=by
 unfold fidxG
 cases hf:l.findIdx? p with
 | some i =>
  obtain ⟨hi,h3,_⟩:=List.findIdx?_eq_some_iff_getElem.1 hf
  have:l.any p=true:=by
   rw [List.any_eq_true]
   exact ⟨_,List.getElem_mem hi,h3⟩
  rw [this];simp
 | none =>
  rw [List.findIdx?_eq_none_iff] at hf
  have:l.any p=false:=by
   rw [List.any_eq_false]
   intro x hx
   simp [hf x hx]
  rw [this];rfl
theorem findex_put (f:FuncId) (xs:List (Wput)) (p:Wput→Bool) (a b c:List AVal) (d:Int) (hl:xs.length≤1000000) (hc:∀ x∈xs,ACalls Tryz.prog f [encPut x,.ptr 0 0] [.box 29 [.sl a,.sl b,iv d,.sl c]] (one (bv (p x)) [.box 29 [.sl a,.sl b,iv d,.sl c]])):ACalls Tryz.prog 184 [.sl (xs.map encPut),.fn (.func f) [] [.ptr 0 0]] [.box 29 [.sl a,.sl b,iv d,.sl c]] (one (iv (fidxG p xs)) [.box 29 [.sl a,.sl b,iv d,.sl c]]):=by
 refine jC Tryz.func184 Tryz.ntmps184 (fun w0 β0 ext hβ=>?_)
 repeat (first|refine jS ?_|refine jD ?_|refine jB ?_)
 refine jloopI (fun k:Nat=>k≤xs.length∧∀ q,q < k→p (at' xs (q:Int))=false) [0,1,8,7] (fun k=>[.sl (xs.map encPut),.fn (.func f) [] [.ptr 0 0],.v (.int .i64 (k:Int)),.v (.int .i64 ((xs.map encPut).length:Int))])
  (fun _=>[.box 29 [.sl a,.sl b,iv d,.sl c]]) (fun k=>xs.length-k) 0 ⟨Nat.zero_le _,fun q h=>absurd h (by omega)⟩ rfl rfl (fun k hk=>?_)
 obtain ⟨hk,hok⟩:=hk
 repeat (first|refine jS ?_|refine jD ?_|refine jB ?_)
 refine jc rfl rfl rfl (fun h=>?_) (fun h=>?_)
 ·have h:=of_decide_eq_true h
  rw [List.length_map] at h
  have hk2:k < xs.length:=by omega
  have hcx:=hc (at' xs (k:Int)) (at_mem hk2)
  repeat (first|refine jS ?_|refine jD ?_|refine jB ?_|refine jI (Int.natCast_nonneg k) h ?_)
  refine jBb [0] hcx ?_
  cases hb:p (at' xs (k:Int)) with
  | true =>
   repeat (first|refine jS ?_|refine jD ?_|refine jB ?_)
   rw [fidxG_some hk2 hb hok]
   exact jR
  | false =>
   repeat (first|refine jS ?_|refine jD ?_|refine jB ?_)
   refine jnextI (k+1) ⟨by omega,fun q hq=>?_⟩ ?_ rfl (by omega)
   ·by_cases e:q=k
    ·subst e;exact hb
    ·exact hok q (by omega)
   ·show some _=some _
    rw [idx_next hk2 (by omega)]
 ·have h:=of_decide_eq_false h
  rw [List.length_map] at h
  repeat (first|refine jS ?_|refine jD ?_|refine jB ?_)
  rw [fidxG_none (fun q hq=>hok q (by omega))]
  exact jR
theorem contains_put (f:FuncId) (xs:List (Wput)) (p:Wput→Bool) (a b c:List AVal) (d:Int) (hl:xs.length≤1000000) (hc:∀ x∈xs,ACalls Tryz.prog f [encPut x,.ptr 0 0] [.box 29 [.sl a,.sl b,iv d,.sl c]] (one (bv (p x)) [.box 29 [.sl a,.sl b,iv d,.sl c]])):ACalls Tryz.prog 136 [.sl (xs.map encPut),.fn (.func f) [] [.ptr 0 0]] [.box 29 [.sl a,.sl b,iv d,.sl c]] (one (bv (xs.any p)) [.box 29 [.sl a,.sl b,iv d,.sl c]]):=by
 have h1:=findex_put f xs p a b c d hl hc
 have h2:=fidxG_any p xs
 refine jC Tryz.func136 Tryz.ntmps136 (fun w0 β0 ext hβ=>?_)
 repeat (first|refine jS ?_|refine jD ?_|refine jB ?_)
 refine jBb [0] h1 ?_
 repeat (first|refine jS ?_|refine jD ?_|refine jB ?_)
 rw [h2]
 exact jR
theorem findex_thr (f:FuncId) (xs:List (Thr)) (p:Thr→Bool) (a b c e g1 g2:List AVal) (d:Int) (hl:xs.length≤1000000) (hc:∀ x∈xs,ACalls Tryz.prog f [encThr x,.ptr 0 0] [.box 33 [.sl a,.sl b,.sl c,iv d,.sl e,.sl g1,.sl g2]] (one (bv (p x)) [.box 33 [.sl a,.sl b,.sl c,iv d,.sl e,.sl g1,.sl g2]])):ACalls Tryz.prog 138 [.sl (xs.map encThr),.fn (.func f) [] [.ptr 0 0]] [.box 33 [.sl a,.sl b,.sl c,iv d,.sl e,.sl g1,.sl g2]] (one (iv (fidxG p xs)) [.box 33 [.sl a,.sl b,.sl c,iv d,.sl e,.sl g1,.sl g2]]):=by
 refine jC Tryz.func138 Tryz.ntmps138 (fun w0 β0 ext hβ=>?_)
 repeat (first|refine jS ?_|refine jD ?_|refine jB ?_)
 refine jloopI (fun k:Nat=>k≤xs.length∧∀ q,q < k→p (at' xs (q:Int))=false) [0,1,8,7] (fun k=>[.sl (xs.map encThr),.fn (.func f) [] [.ptr 0 0],.v (.int .i64 (k:Int)),.v (.int .i64 ((xs.map encThr).length:Int))])
  (fun _=>[.box 33 [.sl a,.sl b,.sl c,iv d,.sl e,.sl g1,.sl g2]]) (fun k=>xs.length-k) 0 ⟨Nat.zero_le _,fun q h=>absurd h (by omega)⟩ rfl rfl (fun k hk=>?_)
 obtain ⟨hk,hok⟩:=hk
 repeat (first|refine jS ?_|refine jD ?_|refine jB ?_)
 refine jc rfl rfl rfl (fun h=>?_) (fun h=>?_)
 ·have h:=of_decide_eq_true h
  rw [List.length_map] at h
  have hk2:k < xs.length:=by omega
  have hcx:=hc (at' xs (k:Int)) (at_mem hk2)
  repeat (first|refine jS ?_|refine jD ?_|refine jB ?_|refine jI (Int.natCast_nonneg k) h ?_)
  refine jBb [0] hcx ?_
  cases hb:p (at' xs (k:Int)) with
  | true =>
   repeat (first|refine jS ?_|refine jD ?_|refine jB ?_)
   rw [fidxG_some hk2 hb hok]
   exact jR
  | false =>
   repeat (first|refine jS ?_|refine jD ?_|refine jB ?_)
   refine jnextI (k+1) ⟨by omega,fun q hq=>?_⟩ ?_ rfl (by omega)
   ·by_cases e:q=k
    ·subst e;exact hb
    ·exact hok q (by omega)
   ·show some _=some _
    rw [idx_next hk2 (by omega)]
 ·have h:=of_decide_eq_false h
  rw [List.length_map] at h
  repeat (first|refine jS ?_|refine jD ?_|refine jB ?_)
  rw [fidxG_none (fun q hq=>hok q (by omega))]
  exact jR
theorem contains_thr (f:FuncId) (xs:List (Thr)) (p:Thr→Bool) (a b c e g1 g2:List AVal) (d:Int) (hl:xs.length≤1000000) (hc:∀ x∈xs,ACalls Tryz.prog f [encThr x,.ptr 0 0] [.box 33 [.sl a,.sl b,.sl c,iv d,.sl e,.sl g1,.sl g2]] (one (bv (p x)) [.box 33 [.sl a,.sl b,.sl c,iv d,.sl e,.sl g1,.sl g2]])):ACalls Tryz.prog 88 [.sl (xs.map encThr),.fn (.func f) [] [.ptr 0 0]] [.box 33 [.sl a,.sl b,.sl c,iv d,.sl e,.sl g1,.sl g2]] (one (bv (xs.any p)) [.box 33 [.sl a,.sl b,.sl c,iv d,.sl e,.sl g1,.sl g2]]):=by
 have h1:=findex_thr f xs p a b c e g1 g2 d hl hc
 have h2:=fidxG_any p xs
 refine jC Tryz.func88 Tryz.ntmps88 (fun w0 β0 ext hβ=>?_)
 repeat (first|refine jS ?_|refine jD ?_|refine jB ?_)
 refine jBb [0] h1 ?_
 repeat (first|refine jS ?_|refine jD ?_|refine jB ?_)
 rw [h2]
 exact jR
theorem findex_frm (f:FuncId) (xs:List (Frm)) (p:Frm→Bool) (hl:xs.length≤1000000) (hc:∀ x∈xs,ACalls Tryz.prog f [encFrm x] [] (one (bv (p x)) [])):ACalls Tryz.prog 185 [.sl (xs.map encFrm),.fn (.func f) [] []] [] (one (iv (fidxG p xs)) []):=by
 refine jC Tryz.func185 Tryz.ntmps185 (fun w0 β0 ext hβ=>?_)
 repeat (first|refine jS ?_|refine jD ?_|refine jB ?_)
 refine jloopI (fun k:Nat=>k≤xs.length∧∀ q,q < k→p (at' xs (q:Int))=false) [0,1,8,7] (fun k=>[.sl (xs.map encFrm),.fn (.func f) [] [],.v (.int .i64 (k:Int)),.v (.int .i64 ((xs.map encFrm).length:Int))])
  (fun _=>[]) (fun k=>xs.length-k) 0 ⟨Nat.zero_le _,fun q h=>absurd h (by omega)⟩ rfl rfl (fun k hk=>?_)
 obtain ⟨hk,hok⟩:=hk
 repeat (first|refine jS ?_|refine jD ?_|refine jB ?_)
 refine jc rfl rfl rfl (fun h=>?_) (fun h=>?_)
 ·have h:=of_decide_eq_true h
  rw [List.length_map] at h
  have hk2:k < xs.length:=by omega
  have hcx:=hc (at' xs (k:Int)) (at_mem hk2)
  repeat (first|refine jS ?_|refine jD ?_|refine jB ?_|refine jI (Int.natCast_nonneg k) h ?_)
  repeat (first|refine jS ?_|refine jD ?_|refine jB ?_|refine jV hcx ?_)
  cases hb:p (at' xs (k:Int)) with
  | true =>
   repeat (first|refine jS ?_|refine jD ?_|refine jB ?_)
   rw [fidxG_some hk2 hb hok]
   exact jR
  | false =>
   repeat (first|refine jS ?_|refine jD ?_|refine jB ?_)
   refine jnextI (k+1) ⟨by omega,fun q hq=>?_⟩ ?_ rfl (by omega)
   ·by_cases e:q=k
    ·subst e;exact hb
    ·exact hok q (by omega)
   ·show some _=some _
    rw [idx_next hk2 (by omega)]
 ·have h:=of_decide_eq_false h
  rw [List.length_map] at h
  repeat (first|refine jS ?_|refine jD ?_|refine jB ?_)
  rw [fidxG_none (fun q hq=>hok q (by omega))]
  exact jR
theorem contains_frm (f:FuncId) (xs:List (Frm)) (p:Frm→Bool) (hl:xs.length≤1000000) (hc:∀ x∈xs,ACalls Tryz.prog f [encFrm x] [] (one (bv (p x)) [])):ACalls Tryz.prog 140 [.sl (xs.map encFrm),.fn (.func f) [] []] [] (one (bv (xs.any p)) []):=by
 have h1:=findex_frm f xs p hl hc
 have h2:=fidxG_any p xs
 refine jC Tryz.func140 Tryz.ntmps140 (fun w0 β0 ext hβ=>?_)
 repeat (first|refine jS ?_|refine jD ?_|refine jB ?_)
 repeat (first|refine jS ?_|refine jD ?_|refine jB ?_|refine jV h1 ?_)
 repeat (first|refine jS ?_|refine jD ?_|refine jB ?_)
 rw [h2]
 exact jR
theorem findex_int (f:FuncId) (xs:List (Int)) (p:Int→Bool) (hl:xs.length≤1000000) (hc:∀ x∈xs,ACalls Tryz.prog f [iv x] [] (one (bv (p x)) [])):ACalls Tryz.prog 186 [.sl (xs.map iv),.fn (.func f) [] []] [] (one (iv (fidxG p xs)) []):=by
 refine jC Tryz.func186 Tryz.ntmps186 (fun w0 β0 ext hβ=>?_)
 repeat (first|refine jS ?_|refine jD ?_|refine jB ?_)
 refine jloopI (fun k:Nat=>k≤xs.length∧∀ q,q < k→p (at' xs (q:Int))=false) [0,1,8,7] (fun k=>[.sl (xs.map iv),.fn (.func f) [] [],.v (.int .i64 (k:Int)),.v (.int .i64 ((xs.map iv).length:Int))])
  (fun _=>[]) (fun k=>xs.length-k) 0 ⟨Nat.zero_le _,fun q h=>absurd h (by omega)⟩ rfl rfl (fun k hk=>?_)
 obtain ⟨hk,hok⟩:=hk
 repeat (first|refine jS ?_|refine jD ?_|refine jB ?_)
 refine jc rfl rfl rfl (fun h=>?_) (fun h=>?_)
 ·have h:=of_decide_eq_true h
  rw [List.length_map] at h
  have hk2:k < xs.length:=by omega
  have hcx:=hc (at' xs (k:Int)) (at_mem hk2)
  repeat (first|refine jS ?_|refine jD ?_|refine jB ?_|refine jI (Int.natCast_nonneg k) h ?_)
  repeat (first|refine jS ?_|refine jD ?_|refine jB ?_|refine jV hcx ?_)
  cases hb:p (at' xs (k:Int)) with
  | true =>
   repeat (first|refine jS ?_|refine jD ?_|refine jB ?_)
   rw [fidxG_some hk2 hb hok]
   exact jR
  | false =>
   repeat (first|refine jS ?_|refine jD ?_|refine jB ?_)
   refine jnextI (k+1) ⟨by omega,fun q hq=>?_⟩ ?_ rfl (by omega)
   ·by_cases e:q=k
    ·subst e;exact hb
    ·exact hok q (by omega)
   ·show some _=some _
    rw [idx_next hk2 (by omega)]
 ·have h:=of_decide_eq_false h
  rw [List.length_map] at h
  repeat (first|refine jS ?_|refine jD ?_|refine jB ?_)
  rw [fidxG_none (fun q hq=>hok q (by omega))]
  exact jR
theorem contains_int (f:FuncId) (xs:List (Int)) (p:Int→Bool) (hl:xs.length≤1000000) (hc:∀ x∈xs,ACalls Tryz.prog f [iv x] [] (one (bv (p x)) [])):ACalls Tryz.prog 142 [.sl (xs.map iv),.fn (.func f) [] []] [] (one (bv (xs.any p)) []):=by
 have h1:=findex_int f xs p hl hc
 have h2:=fidxG_any p xs
 refine jC Tryz.func142 Tryz.ntmps142 (fun w0 β0 ext hβ=>?_)
 repeat (first|refine jS ?_|refine jD ?_|refine jB ?_)
 repeat (first|refine jS ?_|refine jD ?_|refine jB ?_|refine jV h1 ?_)
 repeat (first|refine jS ?_|refine jD ?_|refine jB ?_)
 rw [h2]
 exact jR
end Go.AL
end
section
set_option maxRecDepth 100000
namespace Go.AL
open Go Go.Proofs
attribute [local irreducible] J
theorem place_ok (n:Int):ACalls Tryz.prog 139 [iv n] [] (one (bv (inn n 0 1000)) []):=by
 unfold inn
 cases h1:decide (n≥0) with
 | false =>
  refine jC Tryz.func139 Tryz.ntmps139 (fun w0 β0 ext hβ=>?_)
  repeat (first|refine jS ?_|refine jD ?_|refine jB ?_)
  rw [h1]
  repeat (first|refine jS ?_|refine jD ?_|refine jB ?_)
  exact jR
 | true =>
  refine jC Tryz.func139 Tryz.ntmps139 (fun w0 β0 ext hβ=>?_)
  repeat (first|refine jS ?_|refine jD ?_|refine jB ?_)
  rw [h1]
  repeat (first|refine jS ?_|refine jD ?_|refine jB ?_)
  exact jR
theorem fr1_ok (f:Frm):ACalls Tryz.prog 141 [encFrm f] [] (one (bv (!inn f.back 0 1000)) []):=by
 have h:=place_ok f.back
 unfold encFrm
 refine jC Tryz.func141 Tryz.ntmps141 (fun w0 β0 ext hβ=>?_)
 repeat (first|refine jS ?_|refine jD ?_|refine jB ?_|refine jV h ?_)
 exact jR
theorem fr2_ok (n:Int):ACalls Tryz.prog 143 [iv n] [] (one (bv (!inn n 0 8)) []):=by
 have e:(!inn n 0 8)=(decide (n < 0)||decide (n > 8)):=by
  unfold inn;rw [dec_not (p:=n < 0) (q:=n≥0) (by omega),dec_not (p:=n > 8) (q:=n≤8) (by omega),Bool.not_and]
 rw [e]
 cases h1:decide (n < 0) with
 | false =>
  refine jC Tryz.func143 Tryz.ntmps143 (fun w0 β0 ext hβ=>?_)
  repeat (first|refine jS ?_|refine jD ?_|refine jB ?_)
  rw [h1]
  repeat (first|refine jS ?_|refine jD ?_|refine jB ?_)
  exact jR
 | true =>
  refine jC Tryz.func143 Tryz.ntmps143 (fun w0 β0 ext hβ=>?_)
  repeat (first|refine jS ?_|refine jD ?_|refine jB ?_)
  rw [h1]
  repeat (first|refine jS ?_|refine jD ?_|refine jB ?_)
  exact jR
theorem any_not {α:Type} (l:List α) (p:α→Bool):(l.any fun x=>!p x) = !l.all p:=by
 induction l with
 | nil=>rfl
 | cons a l ih=>simp only [List.any_cons,List.all_cons,ih];cases p a<;>rfl
theorem thr_right (t:Thr) (hf:t.frames.length≤1000000) (hl:t.left.length≤1000000):ACalls Tryz.prog 90 [encThr t] [] (one (bv (thRight t)) []):=by
 have hp:=place_ok t.pc
 have h1:=contains_frm 141 t.frames (fun f=>!inn f.back 0 1000) hf (fun f _=>fr1_ok f)
 have h2:=contains_int 143 t.left (fun n=>!inn n 0 8) hl (fun n _=>fr2_ok n)
 rw [any_not] at h1 h2
 have f1:decide (((t.frames.map encFrm).length:Int) > 6) = !decide (t.frames.length≤6):=by rw [List.length_map];exact dec_not (by omega)
 have f2:decide (((t.left.map iv).length:Int) > 8) = !decide (t.left.length≤8):=by rw [List.length_map];exact dec_not (by omega)
 have f3:(t.state == 0)=decide (t.state=0):=rfl
 have f4:(t.state == 1)=decide (t.state=1):=rfl
 have f5:(t.state == 2)=decide (t.state=2):=rfl
 have f6:(t.fault == 0)=decide (t.fault=0):=rfl
 have f7:inn t.fault 1 16=(decide (t.fault > 0)&&decide (t.fault≤16)):=by unfold inn;rw [Bool.eq_iff_iff];simp;omega
 unfold thRight
 rw [f7]
 unfold encThr thCells
 generalize (t.frames.all fun f=>inn f.back 0 1000)=a1 at *
 generalize (t.left.all fun n=>inn n 0 8)=a2 at *
 generalize inn t.pc 0 1000=a0 at *
 generalize g0 t.regs 0=r0
 generalize g0 t.regs 1=r1
 generalize g0 t.regs 2=r2
 generalize g0 t.regs 3=r3
 generalize g0 t.regs 4=r4
 generalize g0 t.regs 5=r5
 generalize g0 t.regs 6=r6
 generalize g0 t.regs 7=r7
 generalize decide (t.frames.length≤6)=b1 at *
 generalize decide (t.left.length≤8)=b2 at *
 generalize decide (t.state=0)=b3 at *
 generalize decide (t.state=1)=b4 at *
 generalize decide (t.state=2)=b5 at *
 generalize decide (t.fault=0)=b6 at *
 refine jC Tryz.func90 Tryz.ntmps90 (fun w0 β0 ext hβ=>?_)
 repeat (first|refine jS ?_|refine jD ?_|refine jB ?_|refine jV hp ?_)
 cases a0 with
 | false =>
  repeat (first|refine jS ?_|refine jD ?_|refine jB ?_)
  exact jR
 | true =>
  repeat (first|refine jS ?_|refine jD ?_|refine jB ?_)
  rw [f1]
  cases b1 with
  | false =>
   repeat (first|refine jS ?_|refine jD ?_|refine jB ?_)
   exact jR
  | true =>
   repeat (first|refine jS ?_|refine jD ?_|refine jB ?_)
   rw [f2]
   cases b2 with
   | false =>
    repeat (first|refine jS ?_|refine jD ?_|refine jB ?_)
    exact jR
   | true =>
    repeat (first|refine jS ?_|refine jD ?_|refine jB ?_|refine jV h1 ?_)
    cases a1 with
    | false =>
     repeat (first|refine jS ?_|refine jD ?_|refine jB ?_)
     exact jR
    | true =>
     repeat (first|refine jS ?_|refine jD ?_|refine jB ?_|refine jw h2 rfl rfl rfl rfl rfl rfl ?_)
     cases a2 with
     | false =>
      repeat (first|refine jS ?_|refine jD ?_|refine jB ?_)
      exact jR
     | true =>
      repeat (first|refine jS ?_|refine jD ?_|refine jB ?_)
      rw [f3]
      cases b3 with
      | true =>
       repeat (first|refine jS ?_|refine jD ?_|refine jB ?_)
       rw [f6]
       exact jR
      | false =>
       repeat (first|refine jS ?_|refine jD ?_|refine jB ?_)
       rw [f4]
       cases b4 with
       | true =>
        repeat (first|refine jS ?_|refine jD ?_|refine jB ?_)
        rw [f6]
        exact jR
       | false =>
        repeat (first|refine jS ?_|refine jD ?_|refine jB ?_)
        rw [f5]
        cases b5 with
        | false =>
         repeat (first|refine jS ?_|refine jD ?_|refine jB ?_)
         exact jR
        | true =>
         repeat (first|refine jS ?_|refine jD ?_|refine jB ?_)
         cases h:decide (t.fault > 0)
         all_goals (
          repeat (first|refine jS ?_|refine jD ?_|refine jB ?_)
         )
         all_goals exact jR
theorem sizes_ok (n d:Int):ACalls Tryz.prog 135 [iv n,iv d] [] (one (bv (inn n 1 8&&inn d 0 8)) []):=by
 unfold inn
 refine jC Tryz.func135 Tryz.ntmps135 (fun w0 β0 ext hβ=>?_)
 repeat (first|refine jS ?_|refine jD ?_|refine jB ?_)
 cases h1:decide (n≥1) with
 | false =>
  repeat (first|refine jS ?_|refine jD ?_|refine jB ?_)
  exact jR
 | true =>
  repeat (first|refine jS ?_|refine jD ?_|refine jB ?_)
  cases h2:decide (n≤8) with
  | false =>
   repeat (first|refine jS ?_|refine jD ?_|refine jB ?_)
   exact jR
  | true =>
   repeat (first|refine jS ?_|refine jD ?_|refine jB ?_)
   cases h3:decide (d≥0) with
   | false =>
    repeat (first|refine jS ?_|refine jD ?_|refine jB ?_)
    exact jR
   | true =>
    repeat (first|refine jS ?_|refine jD ?_|refine jB ?_)
    exact jR
def tsH (t:Tso):List AObj:=[.box 29 [.sl (t.mem.words.map iv),.sl (t.mem.tags.map iv),iv t.depth,.sl (t.bufs.map encBuf)]]
theorem ts1_ok (t:Tso) (p:Wput) (hw:t.mem.words.length≤1000000):ACalls Tryz.prog 137 [encPut p,.ptr 0 0] (tsH t) (one (bv (!inn p.loc 0 (t.mem.words.length-1))) (tsH t)):=by
 have e:(!inn p.loc 0 (t.mem.words.length-1))=(decide (p.loc < 0)||decide (p.loc≥((t.mem.words.map iv).length:Int))):=by
  rw [List.length_map]
  unfold inn;rw [dec_not (p:=p.loc < 0) (q:=p.loc≥0) (by omega),dec_not (p:=p.loc≥(t.mem.words.length:Int)) (q:=p.loc≤(t.mem.words.length:Int)-1) (by omega),Bool.not_and]
 rw [e]
 unfold encPut tsH
 refine jC Tryz.func137 Tryz.ntmps137 (fun w0 β0 ext hβ=>?_)
 repeat (first|refine jS ?_|refine jD ?_|refine jB ?_)
 cases h1:decide (p.loc < 0) with
 | false =>
  repeat (first|refine jS ?_|refine jD ?_|refine jB ?_)
  exact jR
 | true =>
  repeat (first|refine jS ?_|refine jD ?_|refine jB ?_)
  exact jR
def buOk (t:Tso) (b:List Wput):Bool:=decide ((b.length:Int)≤t.depth)&&b.all fun p=>inn p.loc 0 (t.mem.words.length-1)
theorem allAt {α:Type} [Inhabited α] {l:List α} {p:α→Bool}:((∀ q,q < l.length→p (at' l (q:Int))=true)→l.all p=true)∧∀ q,q < l.length→p (at' l (q:Int))=false→l.all p=false:=by
 refine ⟨fun hq=>?_,fun q hq hp=>?_⟩
 ·rw [List.all_eq_true]
  intro x hx
  obtain ⟨i,hi,rfl⟩:=List.getElem_of_mem hx
  have:=hq i hi
  rwa [at_nat l i hi] at this
 ·rw [List.all_eq_false]
  refine ⟨l[q],List.getElem_mem hq,?_⟩
  rw [at_nat l q hq] at hp
  simp [hp]
structure TsSz (t:Tso):Prop where
 words:t.mem.words.length≤1000000
 tags:t.mem.tags.length≤1000000
 bufs:t.bufs.length≤1000000
 puts:∀ b∈t.bufs,b.length≤1000000
theorem tso_right (t:Tso) (h:TsSz t):ACalls Tryz.prog 87 [encTso t] [] (one (bv (tsRight t)) []):=by
 have h1:=mem_right t.mem h.words h.tags
 have h2:=sizes_ok ((t.bufs.map encBuf).length:Int) t.depth
 have e1:(inn ((t.bufs.map encBuf).length:Int) 1 8&&inn t.depth 0 8)=szOk t.bufs.length t.depth:=by
  rw [List.length_map];unfold szOk inn
  rw [decide_eq_decide.2 (show (t.bufs.length:Int)≥1↔1≤t.bufs.length by omega),decide_eq_decide.2 (show (t.bufs.length:Int)≤8↔t.bufs.length≤8 by omega),Bool.and_assoc]
 rw [e1] at h2
 have h3:=fun (b:List Wput) (hb:b.length≤1000000)=>contains_put 137 b (fun p=>!inn p.loc 0 (t.mem.words.length-1)) (t.mem.words.map iv) (t.mem.tags.map iv) (t.bufs.map encBuf) t.depth hb (fun p _=>ts1_ok t p h.words)
 obtain ⟨hz1,hz2⟩:=allAt (l:=t.bufs) (p:=buOk t)
 have hsp:=h.puts
 have hbl:=h.bufs
 unfold tsRight
 rw [show (t.bufs.all fun b=>decide ((b.length:Int)≤t.depth)&&b.all fun p=>inn p.loc 0 (t.mem.words.length-1))=t.bufs.all (buOk t) from rfl]
 unfold encTso tCells ivs
 unfold encMem mCells ivs at h1
 simp only [any_not] at h3
 refine jC Tryz.func87 Tryz.ntmps87 (fun w0 β0 ext hβ=>?_)
 repeat (first|refine jS ?_|refine jD ?_|refine jB ?_|refine jV h1 ?_)
 cases hm:mRight t.mem with
 | false =>
  repeat (first|refine jS ?_|refine jD ?_|refine jB ?_)
  exact jR
 | true =>
  repeat (first|refine jS ?_|refine jD ?_|refine jB ?_|refine jV h2 ?_)
  cases hs:szOk t.bufs.length t.depth with
  | false =>
   repeat (first|refine jS ?_|refine jD ?_|refine jB ?_)
   exact jR
  | true =>
   repeat (first|refine jS ?_|refine jD ?_|refine jB ?_)
   refine jloopI (fun k:Nat=>k≤t.bufs.length∧∀ q,q < k→buOk t (at' t.bufs (q:Int))=true) [1,19,20,21] (fun k=>[.ptr 0 0,.sl (t.bufs.map encBuf),.v (.int .i64 ((t.bufs.map encBuf).length:Int)),.v (.int .i64 (k:Int))])
    (fun _=>[.box 29 [.sl (t.mem.words.map iv),.sl (t.mem.tags.map iv),iv t.depth,.sl (t.bufs.map encBuf)]]) (fun k=>t.bufs.length-k) 0 ⟨Nat.zero_le _,fun q h=>absurd h (by omega)⟩ rfl rfl (fun k hk=>?_)
   obtain ⟨hk,hok⟩:=hk
   repeat (first|refine jS ?_|refine jD ?_|refine jB ?_)
   refine jc rfl rfl rfl (fun h=>?_) (fun h=>?_)
   ·have h:=of_decide_eq_true h
    rw [List.length_map] at h
    have hk2:k < t.bufs.length:=by omega
    have hidx:IntKind.i64.wrap ((k:Int)+1)=((k+1:Nat):Int):=idx_next hk2 (by omega)
    have h3:=h3 (at' t.bufs (k:Int)) (hsp _ (at_mem hk2))
    have hno:=hz2 k hk2
    have hnx:buOk t (at' t.bufs (k:Int))=true→∀ q,q < k+1→buOk t (at' t.bufs (q:Int))=true:=fun hb q hq=>by
     by_cases e:q=k
     ·subst e;exact hb
     ·exact hok q (by omega)
    have f1:decide ((((at' t.bufs (k:Int)).map encPut).length:Int) > t.depth) = !decide (((at' t.bufs (k:Int)).length:Int)≤t.depth):=by rw [List.length_map];exact dec_not (by omega)
    repeat (first|refine jS ?_|refine jD ?_|refine jB ?_|refine jI (Int.natCast_nonneg k) h ?_)
    have hbd:buOk t (at' t.bufs (k:Int))=(decide (((at' t.bufs (k:Int)).length:Int)≤t.depth)&&(at' t.bufs (k:Int)).all fun p=>inn p.loc 0 (t.mem.words.length-1)):=rfl
    rw [hbd] at hno hnx
    generalize (at' t.bufs (k:Int)).all (fun p=>inn p.loc 0 (t.mem.words.length-1))=a1 at *
    generalize decide (((at' t.bufs (k:Int)).length:Int)≤t.depth)=a2 at *
    rw [f1]
    cases a2 with
    | false =>
     repeat (first|refine jS ?_|refine jD ?_|refine jB ?_)
     rw [hno rfl]
     exact jR
    | true =>
     repeat (first|refine jS ?_|refine jD ?_|refine jB ?_)
     refine jBb [0] h3 ?_
     cases a1 with
     | false =>
      repeat (first|refine jS ?_|refine jD ?_|refine jB ?_)
      rw [hno rfl]
      exact jR
     | true =>
      repeat (first|refine jS ?_|refine jD ?_|refine jB ?_)
      refine jnextI (k+1) ⟨by omega,hnx rfl⟩ ?_ rfl (by omega)
      show some _=some _
      rw [hidx]
   ·have h:=of_decide_eq_false h
    rw [List.length_map] at h
    rw [hz1 fun q hq=>hok q (by omega)]
    repeat (first|refine jS ?_|refine jD ?_|refine jB ?_)
    exact jR
structure WdSz (w:Wd):Prop where
 code:w.code.length≤1000000
 tso:TsSz w.tso
 thr:w.thr.length≤1000000
 each:∀ t∈w.thr,t.frames.length≤1000000∧t.left.length≤1000000
def wdH (w:Wd):List AObj:=[.box 33 [.sl (w.code.map encIns),.sl (w.tso.mem.words.map iv),.sl (w.tso.mem.tags.map iv),iv w.tso.depth,.sl (w.tso.bufs.map encBuf),.sl (w.thr.map encThr),.sl (w.evs.map encEvt)]]
def tOk (n:Nat) (t:Thr):Bool:=thRight t&&(decide (t.left.length=0)||decide (t.left.length=n))
theorem wr1_ok (w:Wd) (t:Thr) (h:t.frames.length≤1000000∧t.left.length≤1000000):ACalls Tryz.prog 89 [encThr t,.ptr 0 0] (wdH w) (one (bv (!tOk w.thr.length t)) (wdH w)):=by
 have h1:=thr_right t h.1 h.2
 have e1:decide (((t.left.map iv).length:Int) > 0) = !decide (t.left.length=0):=by rw [List.length_map];exact dec_not (by omega)
 have e2:(((t.left.map iv).length:Int) != ((w.thr.map encThr).length:Int)) = !decide (t.left.length=w.thr.length):=by rw [List.length_map,List.length_map,int_bne];congr 1;exact decide_eq_decide.2 (by omega)
 unfold tOk wdH
 unfold encThr thCells at *
 generalize thRight t=a at *
 generalize decide (t.left.length=0)=b at *
 generalize decide (t.left.length=w.thr.length)=c at *
 refine jC Tryz.func89 Tryz.ntmps89 (fun w0 β0 ext hβ=>?_)
 repeat (first|refine jS ?_|refine jD ?_|refine jB ?_|refine jV h1 ?_)
 cases a with
 | false =>
  repeat (first|refine jS ?_|refine jD ?_|refine jB ?_)
  exact jR
 | true =>
  repeat (first|refine jS ?_|refine jD ?_|refine jB ?_)
  rw [e1]
  cases b with
  | true =>
   repeat (first|refine jS ?_|refine jD ?_|refine jB ?_)
   exact jR
  | false =>
   repeat (first|refine jS ?_|refine jD ?_|refine jB ?_)
   rw [e2]
   exact jR
theorem wd_right (w:Wd) (h:WdSz w):ACalls Tryz.prog 46 [encWd w] [] (one (bv (wRight w)) []):=by
 have h1:=right_ok w.code h.code
 have h2:=tso_right w.tso h.tso
 have h3:=contains_thr 89 w.thr (fun t=>!tOk w.thr.length t) (w.code.map encIns) (w.tso.mem.words.map iv) (w.tso.mem.tags.map iv) (w.tso.bufs.map encBuf) (w.thr.map encThr) (w.evs.map encEvt) w.tso.depth h.thr (fun t ht=>wr1_ok w t (h.each t ht))
 rw [any_not] at h3
 have e2:(((w.thr.map encThr).length:Int) != ((w.tso.bufs.map encBuf).length:Int)) = !decide (w.thr.length=w.tso.bufs.length):=by rw [List.length_map,List.length_map,int_bne];congr 1;exact decide_eq_decide.2 (by omega)
 unfold wRight
 rw [show (w.thr.all fun t=>thRight t&&(decide (t.left.length=0)||decide (t.left.length=w.thr.length)))=w.thr.all (tOk w.thr.length) from rfl]
 unfold encIs at h1
 unfold encTso tCells ivs at h2
 unfold encWd wCells ivs
 generalize rightC w.code=a1 at *
 generalize tsRight w.tso=a2 at *
 generalize decide (w.thr.length=w.tso.bufs.length)=a3 at *
 generalize w.thr.all (tOk w.thr.length)=a4 at *
 refine jC Tryz.func46 Tryz.ntmps46 (fun w0 β0 ext hβ=>?_)
 repeat (first|refine jS ?_|refine jD ?_|refine jB ?_|refine jV h1 ?_)
 cases a1 with
 | false =>
  repeat (first|refine jS ?_|refine jD ?_|refine jB ?_)
  exact jR
 | true =>
  repeat (first|refine jS ?_|refine jD ?_|refine jB ?_|refine jV h2 ?_)
  cases a2 with
  | false =>
   repeat (first|refine jS ?_|refine jD ?_|refine jB ?_)
   exact jR
  | true =>
   repeat (first|refine jS ?_|refine jD ?_|refine jB ?_)
   rw [e2]
   cases a3 with
   | false =>
    repeat (first|refine jS ?_|refine jD ?_|refine jB ?_)
    exact jR
   | true =>
    repeat (first|refine jS ?_|refine jD ?_|refine jB ?_)
    refine jBb [0] h3 ?_
    cases a4
    all_goals (
     repeat (first|refine jS ?_|refine jD ?_|refine jB ?_)
    )
    all_goals exact jR
end Go.AL
end
section
set_option maxRecDepth 100000
namespace Go.AL
open Go Go.Proofs
attribute [local irreducible] J
theorem newest_some {b:List Wput} {a:Int} {q:Nat} (hq:q < b.length) (h:(at' b (q:Int)).loc=a) (hn:∀ p,q < p→p < b.length→(at' b (p:Int)).loc≠a):newest b a=some (at' b (q:Int)).val:=by
 unfold newest
 rw [at_nat b q hq] at *
 rw [List.find?_eq_some_iff_append.2 ⟨?_,(b.drop (q+1)).reverse,(b.take q).reverse,?_,?_⟩]
 ·rfl
 ·simpa using h
 ·have e:b=b.take q++b[q]::b.drop (q+1):=by rw [←List.drop_eq_getElem_cons hq,List.take_append_drop]
  conv=>lhs;rw [e]
  simp
 ·intro x hx
  rw [List.mem_reverse] at hx
  obtain ⟨i,hi,rfl⟩:=List.getElem_of_mem hx
  rw [List.length_drop] at hi
  have:=hn (q+1+i) (by omega) (by omega)
  rw [at_nat b _ (by omega)] at this
  simpa [List.getElem_drop] using this
theorem newest_none {b:List Wput} {a:Int} (hn:∀ p,p < b.length→(at' b (p:Int)).loc≠a):newest b a=none:=by
 unfold newest
 rw [List.find?_eq_none.2 fun x hx=>?_]
 ·rfl
 rw [List.mem_reverse] at hx
 obtain ⟨i,hi,rfl⟩:=List.getElem_of_mem hx
 have:=hn i hi
 rw [at_nat b _ hi] at this
 simpa using this
theorem backward_ok (b:List Wput):ACalls Tryz.prog 288 [.sl (b.map encPut)] [] (one (.fn (.func 299) [] [.ptr 0 0]) [.box 159 [.sl (b.map encPut)]]):=by
 refine jC Tryz.func288 Tryz.ntmps288 (fun w0 β0 ext hβ=>?_)
 repeat (first|refine jS ?_|refine jD ?_|refine jB ?_)
 exact jret [0] true rfl rfl rfl ⟨rfl,rfl⟩
theorem backward1_ok (l jb:Nat) (b:List Wput) (hb:b.length≤1000000) (A:Nat→List AObj) (ok:Nat→Prop) (h0:ok b.length) (Z:List AObj→Prop) (hA:∀ k,k≤b.length→(A k)[jb]? = some (.box 159 [.sl (b.map encPut)]))
  (hY:∀ (k:Nat) (hk:k < b.length),ok (k+1)→AYield Tryz.prog l [iv (k:Int),encPut (at' b (k:Int))] (A (k+1)) (fun r H'=>(r = .ret (bv true)∧H'=A k∧ok k)∨(r = .ret (bv false)∧Z H'))) :
  ACalls Tryz.prog 299 [.fn (.yield l) [] [],.ptr jb 0] (A b.length) (fun r H'=>r = .ret (.tup [])∧((H'=A 0∧ok 0)∨Z H')):=by
 have hlen:=hA b.length (Nat.le_refl _)
 have hw:IntKind.i64.wrap (((b.map encPut).length:Int)-1)=(b.length:Int)-1:=by rw [List.length_map,wrap_id]<;>omega
 refine jcalls0 Tryz.func299 rfl (by kernel_rfl) Tryz.ntmps299 rfl rfl (fun w0 β0 ext hβ=>?_)
 repeat (first|refine jS ?_|refine jD ?_|refine jB ?_|refine jo rfl rfl (load_dsem (r:=ty159) rfl hlen rfl rfl) rfl rfl ?_)
 rw [hw]
 refine jloopI (fun k=>k≤b.length∧ok k) [0,1,3] (fun k=>[.fn (.yield l) [] [],.ptr jb 0,.v (.int .i64 ((k:Int)-1))]) A (fun k=>k) b.length ⟨Nat.le_refl _,h0⟩ rfl rfl (fun k hk=>?_)
 obtain ⟨hk,hok⟩:=hk
 have hbx:=hA k hk
 match k with
 | 0 =>
  repeat (first|refine jS ?_|refine jD ?_|refine jB ?_|refine jo rfl rfl (load_dsem (r:=ty159) rfl hbx rfl rfl) rfl rfl ?_)
  refine jend0 rfl ⟨rfl,.inl ⟨rfl,hok⟩⟩
 | k+1 =>
  have hk1:(((k+1:Nat):Int)-1)=(k:Int):=by omega
  have hge:decide ((k:Int)≥0)=true:=decide_eq_true (by omega)
  have hw2:IntKind.i64.wrap ((k:Int)-1)=(k:Int)-1:=by rw [wrap_id]<;>omega
  have hy:=hY k (by omega) hok
  rw [hk1]
  unfold iv at hy
  repeat (first|refine jS ?_|refine jD ?_|refine jB ?_)
  rw [hge]
  repeat (first|refine jS ?_|refine jD ?_|refine jB ?_|refine jo rfl rfl (load_dsem (r:=ty159) rfl hbx rfl rfl) rfl rfl ?_|refine jo rfl rfl (index_at rfl rfl rfl rfl rfl rfl rfl rfl (Int.natCast_nonneg k) (by omega)) rfl rfl ?_)
  refine jy hy rfl rfl rfl rfl (fun r' H' hres=>?_)
  rcases hres with ⟨rfl,rfl,hok2⟩|⟨rfl,hz⟩
  ·refine ⟨_,rfl,?_⟩
   repeat (first|refine jS ?_|refine jD ?_|refine jB ?_)
   rw [hw2]
   exact jnextI k ⟨by omega,hok2⟩ rfl rfl (by omega)
  ·refine ⟨_,rfl,?_⟩
   repeat (first|refine jS ?_|refine jD ?_|refine jB ?_)
   exact jret0 rfl ⟨rfl,.inr hz⟩
theorem newest_ok (b:List Wput) (a:Int) (hb:b.length≤1000000):ACalls Tryz.prog 269 [.sl (b.map encPut),iv a] [] (one (.tup [iv ((newest b a).getD 0),bv (newest b a).isSome]) []):=by
 have hbk:=backward_ok b
 refine jC Tryz.func269 Tryz.ntmps269 (fun w0 β0 ext hβ=>?_)
 repeat (first|refine jS ?_|refine jD ?_|refine jB ?_)
 refine jBb [] hbk ?_
 repeat (first|refine jS ?_|refine jD ?_|refine jB ?_)
 refine jrange [3,4,5] rfl rfl rfl (fun l c c1 c2 c3 c4 c5=>?_)
 have hc:=backward1_ok l 3 b hb (fun k=>[.box 3 [iv a],.box 3 [iv 0],.box 4 [bv false],.box 159 [.sl (b.map encPut)],.loop l .ready none c [.ptr 0 0,.ptr 1 0,.ptr 2 0]])
  (fun k=>∀ p,k≤p→p < b.length→(at' b (p:Int)).loc≠a) (fun p h1 h2=>absurd h2 (by omega))
  (fun H'=>∃ v,newest b a=some v∧H'=[.box 3 [iv a],.box 3 [iv v],.box 4 [bv true],.box 159 [.sl (b.map encPut)],.loop l .done (some .ret) c [.ptr 0 0,.ptr 1 0,.ptr 2 0]]) (fun k _=>rfl) (fun k hk hok=>?_)
 ·refine ⟨_,hc,fun r H' hres=>?_⟩
  obtain ⟨rfl,⟨rfl,hn⟩|⟨v,hv,rfl⟩⟩:=hres
  ·refine ⟨_,.ready,none,_,.normal,rfl,rfl,by decide,rfl,?_⟩
   rw [newest_none fun p hp=>hn p (Nat.zero_le _) hp]
   repeat (first|refine jS ?_|refine jD ?_|refine jB ?_)
   exact jR
  ·refine ⟨_,.done,some .ret,_,.ret,rfl,rfl,by decide,rfl,?_⟩
   rw [hv]
   repeat (first|refine jS ?_|refine jD ?_|refine jB ?_)
   exact jR
 ·refine jround (ts:=[3,4,5]) c1 c2 c3 c4 c5 (j:=4) rfl rfl rfl (fun w1 β1 ext1 hβ1=>?_)
  have hx:(at' b (k:Int)).loc=a→newest b a=some (at' b (k:Int)).val:=fun h=>newest_some hk h (fun p h1 h2=>hok p (by omega) h2)
  have hy:(at' b (k:Int)).loc≠a→∀ p,k≤p→p < b.length→(at' b (p:Int)).loc≠a:=fun h p h1 h2=>by
   by_cases e:p=k
   ·subst e;exact h
   ·exact hok p (by omega) h2
  generalize at' b (k:Int)=x at *
  rw [show encPut x = .agg [iv x.loc,iv x.val] from rfl]
  have hd:(x.loc == a)=decide (x.loc=a):=rfl
  repeat (first|refine jS ?_|refine jD ?_|refine jB ?_)
  refine jlp ⟨rfl,?_⟩
  repeat (first|refine jS ?_|refine jD ?_|refine jB ?_)
  rw [hd]
  cases he:decide (x.loc=a) with
  | true =>
   repeat (first|refine jS ?_|refine jD ?_|refine jB ?_)
   exact jrend (some .ret) rfl rfl rfl rfl (.inr ⟨rfl,_,hx (of_decide_eq_true he),rfl⟩)
  | false =>
   repeat (first|refine jS ?_|refine jD ?_|refine jB ?_)
   exact jrend none rfl rfl rfl rfl (.inl ⟨rfl,rfl,hy (of_decide_eq_false he)⟩)
theorem pop_ok (p:Wput) (r:List Wput) (hr:r.length≤900):ACalls Tryz.prog 148 [.sl ((p::r).map encPut)] [] (one (.tup [encPut p,.sl (r.map encPut),iv 0]) []):=by
 have hc:=clone_put_v r (by omega)
 have hl:((((p::r).map encPut).length:Int) == 0)=false:=by rw [List.length_map,int_beq];exact decide_eq_false (by simp;omega)
 refine jC Tryz.func148 Tryz.ntmps148 (fun w0 β0 ext hβ=>?_)
 repeat (first|refine jS ?_|refine jD ?_|refine jB ?_)
 rw [hl]
 have h0:(0:Int) < (p::r).length:=by simp
 have ha:at' (p::r) 0=p:=rfl
 have hdr:((p::r).drop 1).take ((p::r).length-1)=r:=by simp
 repeat (first|refine jS ?_|refine jD ?_|refine jB ?_|refine jI (l:=p::r) (Int.le_refl 0) h0 ?_)
 rw [ha]
 repeat (first|refine jS ?_|refine jD ?_|refine jB ?_)
 refine jo rfl rfl (cut_enc (l:=p::r) 1 (p::r).length rfl rfl ⟨_,rfl⟩ (by rw [List.length_map]) rfl rfl rfl (fun x=>⟨rfl,rfl⟩) (by simp) (Nat.le_refl _)) rfl rfl ?_
 rw [hdr]
 repeat (first|refine jS ?_|refine jD ?_|refine jB ?_|refine jV hc ?_)
 exact jR
theorem pop_none:ACalls Tryz.prog 148 [.sl []] [] (one (.tup [encPut ⟨0,0⟩,.sl [],iv 8]) []):=by
 refine jC Tryz.func148 Tryz.ntmps148 (fun w0 β0 ext hβ=>?_)
 repeat (first|refine jS ?_|refine jD ?_|refine jB ?_)
 exact jR
theorem push_ok (b:List Wput) (d:Int) (p:Wput) (h0:0≤d) (h8:d≤8) (hb:(b.length:Int)≤d) :
  ACalls Tryz.prog 270 [.sl (b.map encPut),iv d,encPut p] [] (one (.tup [.sl ((cond (decide ((b.length:Int)=d)) [] (b++[p])).map encPut),iv (cond (decide ((b.length:Int)=d)) 7 0)]) []):=by
 have e1:decide (d < 0)=false:=decide_eq_false (by omega)
 have e2:decide (d > 8)=false:=decide_eq_false (by omega)
 have e3:decide (((b.map encPut).length:Int) > d)=false:=decide_eq_false (by rw [List.length_map];omega)
 have e4:(((b.map encPut).length:Int) == d)=decide ((b.length:Int)=d):=by rw [List.length_map];rfl
 refine jC Tryz.func270 Tryz.ntmps270 (fun w0 β0 ext hβ=>?_)
 repeat (first|refine jS ?_|refine jD ?_|refine jB ?_)
 rw [e1]
 repeat (first|refine jS ?_|refine jD ?_|refine jB ?_)
 rw [e2]
 repeat (first|refine jS ?_|refine jD ?_|refine jB ?_)
 rw [e3]
 repeat (first|refine jS ?_|refine jD ?_|refine jB ?_)
 rw [e4]
 cases he:decide ((b.length:Int)=d) with
 | true =>
  repeat (first|refine jS ?_|refine jD ?_|refine jB ?_)
  exact jR
 | false =>
  repeat (first|refine jS ?_|refine jD ?_|refine jB ?_)
  refine jo rfl rfl (cut_full rfl rfl rfl rfl rfl rfl rfl rfl (elems_put b) (Int.le_refl 0) (Int.natCast_nonneg _) (Int.le_refl _)) rfl rfl ?_
  rw [show List.take (((b.map encPut).length:Int).toNat-(0:Int).toNat) (List.drop (0:Int).toNat (b.map encPut))=b.map encPut by rw [List.take_of_length_le (by simp)];simp]
  repeat (first|refine jS ?_|refine jD ?_|refine jB ?_)
  refine jo rfl rfl (append_new (ys:=[encPut p]) rfl rfl (.sl rfl) rfl rfl rfl rfl rfl (elems_put b) (elems_put [p]) rfl (by simp) (by simp [ty222];omega) (by simp;omega)) rfl rfl ?_
  rw [show b.map encPut++[encPut p]=(b++[p]).map encPut by rw [List.map_append];rfl]
  repeat (first|refine jS ?_|refine jD ?_|refine jB ?_)
  exact jR
end Go.AL
end
section
set_option maxRecDepth 100000
namespace Go.AL
open Go Go.Proofs
attribute [local irreducible] J
theorem szOk_iff {n:Nat} {d:Int}:szOk n d=true↔(1≤n∧n≤8)∧0≤d∧d≤8:=by
 unfold szOk
 simp only [Bool.and_eq_true,decide_eq_true_eq,inn_iff]
 omega
structure TsR (t:Tso):Prop where
 mem:mRight t.mem=true
 sz:(1≤t.bufs.length∧t.bufs.length≤8)∧0≤t.depth∧t.depth≤8
 put:∀ b∈t.bufs,(b.length:Int)≤t.depth∧∀ p∈b,0≤p.loc∧p.loc < t.mem.words.length
theorem tsRight_iff {t:Tso}:tsRight t=true↔TsR t:=by
 unfold tsRight
 simp only [Bool.and_eq_true,szOk_iff,List.all_eq_true,decide_eq_true_eq,inn_iff]
 constructor
 ·rintro ⟨a,b,c⟩
  exact ⟨a,b,fun x hx=>⟨(c x hx).1,fun p hp=>by have:=(c x hx).2 p hp;omega⟩⟩
 ·rintro ⟨a,b,c⟩
  exact ⟨a,b,fun x hx=>⟨(c x hx).1,fun p hp=>by have:=(c x hx).2 p hp;omega⟩⟩
theorem TsR.size {t:Tso} (h:TsR t):TsSz t:=by
 obtain ⟨r1,r2,r3,r4⟩:=(mRight_iff t.mem).1 h.mem
 have:=h.sz
 exact ⟨by omega,by omega,by omega,fun b hb=>by have:=(h.put b hb).1;omega⟩
def encMac (t:Tso):AVal:=.agg (tCells t)
theorem has_ok (t:Tso) (k:Int) (h:TsR t):ACalls Tryz.prog 268 [encMac t,iv k] [] (one (bv (inn k 0 (t.bufs.length-1))) []):=by
 have h1:=tso_right t h.size
 rw [tsRight_iff.2 h] at h1
 have e:inn k 0 (t.bufs.length-1)=(decide (k≥0)&&decide (k < ((t.bufs.map encBuf).length:Int))):=by
  unfold inn;rw [List.length_map,decide_eq_decide.2 (show k≤(t.bufs.length:Int)-1↔k < (t.bufs.length:Int) by omega)]
 rw [e]
 unfold encMac tCells ivs
 unfold encTso tCells ivs at h1
 refine jC Tryz.func268 Tryz.ntmps268 (fun w0 β0 ext hβ=>?_)
 repeat (first|refine jS ?_|refine jD ?_|refine jB ?_|refine jV h1 ?_)
 cases hk:decide (k≥0)
 all_goals (
  repeat (first|refine jS ?_|refine jD ?_|refine jB ?_)
 )
 all_goals exact jR
theorem has_yes (t:Tso) (k:Nat) (h:TsR t) (hk:k < t.bufs.length):ACalls Tryz.prog 268 [encMac t,iv (k:Int)] [] (one (bv true) []):=by
 have:=has_ok t k h
 rwa [inn_iff.2 ⟨by omega,by omega⟩] at this
theorem bufAt_at {t:Tso} {k:Nat}:bufAt t k=at' t.bufs (k:Int):=rfl
theorem wait_ok (t:Tso) (k:Nat) (b:List Wput) (hk:k < t.bufs.length) (hl:t.bufs.length≤8) :
  ACalls Tryz.prog 271 [.ptr 0 0,iv (k:Int),encBuf b] [.box 329 (tCells t)]
   (one (.tup []) [.box 329 (tCells ⟨t.mem,t.depth,t.bufs.set k b⟩)]):=by
 have hc:=clone_buf t.bufs (by intro e;rw [e] at hk;simp at hk) (by omega)
 unfold tCells ivs
 refine jC Tryz.func271 Tryz.ntmps271 (fun w0 β0 ext hβ=>?_)
 repeat (first|refine jS ?_|refine jD ?_|refine jB ?_)
 refine jBb [] hc ?_
 repeat (first|refine jS ?_|refine jD ?_|refine jB ?_)
 refine jo rfl rfl (index_own (xs:=t.bufs.map encBuf) (n:=(k:Int)) rfl rfl rfl rfl rfl rfl (by omega) (by simp;omega)) rfl rfl ?_
 refine jo rfl rfl (store_enc (enc:=encBuf) (l:=t.bufs) (l':=t.bufs.set k b) rfl rfl rfl (map_at (by omega)) rfl rfl rfl rfl rfl (Nat.le_of_ble_eq_true rfl) (.inr ⟨rfl,rfl⟩) (put_at (enc:=encBuf) rfl) rfl) rfl rfl ?_
 repeat (first|refine jS ?_|refine jD ?_|refine jB ?_)
 exact jend [] true rfl rfl rfl ⟨rfl,rfl⟩
theorem tnew_ok (m:Mem) (n d:Int) (hm:m.words.length≤1000000∧m.tags.length≤1000000) :
  ACalls Tryz.prog 128 [encMem m,iv n,iv d] [] (one (.tup [encTso (cond (mRight m&&(inn n 1 8&&inn d 0 8)) ⟨m,d,List.replicate n.toNat []⟩ tso0),iv (cond (mRight m) (cond (inn n 1 8&&inn d 0 8) 0 2) 1)]) []):=by
 have h1:=mem_right m hm.1 hm.2
 have h2:=sizes_ok n d
 unfold encTso tCells
 unfold encMem mCells ivs at *
 cases hr:mRight m with
 | false =>
  rw [hr] at h1
  refine jC Tryz.func128 Tryz.ntmps128 (fun w0 β0 ext hβ=>?_)
  repeat (first|refine jS ?_|refine jD ?_|refine jB ?_|refine jV h1 ?_)
  exact jR
 | true =>
  rw [hr] at h1
  cases hs:(inn n 1 8&&inn d 0 8) with
  | false =>
   rw [hs] at h2
   refine jC Tryz.func128 Tryz.ntmps128 (fun w0 β0 ext hβ=>?_)
   repeat (first|refine jS ?_|refine jD ?_|refine jB ?_|refine jV h1 ?_|refine jV h2 ?_)
   exact jR
  | true =>
   rw [hs] at h2
   rw [Bool.and_eq_true,inn_iff,inn_iff] at hs
   have hrep:(List.replicate n.toNat ([]:List Wput)).map encBuf=List.replicate n.toNat (.sl []):=by rw [List.map_replicate];rfl
   simp only [Bool.and_true,cond_true]
   rw [hrep]
   refine jC Tryz.func128 Tryz.ntmps128 (fun w0 β0 ext hβ=>?_)
   repeat (first|refine jS ?_|refine jD ?_|refine jB ?_|refine jV h1 ?_|refine jV h2 ?_)
   refine jo rfl rfl (make_ownA n.toNat (n:=n) nil_rel rfl rfl (by omega) rfl rfl rfl rfl rfl rfl rfl (by decide) (by omega) rfl rfl) rfl rfl ?_
   repeat (first|refine jS ?_|refine jD ?_|refine jB ?_)
   exact jR
theorem tload_ok (t:Tso) (k:Nat) (a:Int) (h:TsR t) (hk:k < t.bufs.length):ACalls Tryz.prog 230 [encTso t,iv (k:Int),iv a] [] (one (.tup [iv (tsLoad t k a).1,iv (tsLoad t k a).2]) []):=by
 have h1:=has_yes t k h hk
 have h2:=load_ok t.mem a h.mem
 have h3:=newest_ok (bufAt t k) a (by rw [bufAt_at];exact h.size.puts _ (at_mem hk))
 unfold tsLoad
 have hd:((mLoad t.mem a).2 != 0) = !decide ((mLoad t.mem a).2=0):=rfl
 rw [bufAt_at] at *
 unfold encMac tCells ivs at h1
 unfold encTso tCells ivs
 unfold encMem mCells ivs at h2
 generalize mLoad t.mem a=ld at *
 obtain ⟨v,e⟩:=ld
 simp only at *
 generalize hbb:at' t.bufs (k:Int)=bb at *
 cases he:decide (e=0) with
 | false =>
  rw [he] at hd
  refine jC Tryz.func230 Tryz.ntmps230 (fun w0 β0 ext hβ=>?_)
  repeat (first|refine jS ?_|refine jD ?_|refine jB ?_|refine jV h1 ?_|refine jV h2 ?_)
  rw [hd]
  repeat (first|refine jS ?_|refine jD ?_|refine jB ?_)
  exact jR
 | true =>
  rw [he] at hd
  have hk1:(k:Int) < t.bufs.length:=by omega
  refine jC Tryz.func230 Tryz.ntmps230 (fun w0 β0 ext hβ=>?_)
  repeat (first|refine jS ?_|refine jD ?_|refine jB ?_|refine jV h1 ?_|refine jV h2 ?_)
  rw [hd]
  repeat (first|refine jS ?_|refine jD ?_|refine jB ?_|refine jI (Int.natCast_nonneg k) hk1 ?_)
  rw [hbb]
  repeat (first|refine jS ?_|refine jD ?_|refine jB ?_|refine jV h3 ?_)
  cases newest bb a
  all_goals (
   repeat (first|refine jS ?_|refine jD ?_|refine jB ?_)
  )
  all_goals exact jR
theorem tstore_ok (t:Tso) (k:Nat) (a v:Int) (h:TsR t) (hk:k < t.bufs.length):ACalls Tryz.prog 231 [encTso t,iv (k:Int),iv a,iv v] [] (one (.tup [encTso (tsStore t k a v).1,iv (tsStore t k a v).2]) []):=by
 have h1:=has_yes t k h hk
 have h2:=store_ok t.mem a v h.mem
 have h3:=push_ok (bufAt t k) t.depth ⟨a,v⟩ h.sz.2.1 h.sz.2.2 (by rw [bufAt_at];exact (h.put _ (at_mem hk)).1)
 have h4:=fun b=>wait_ok t k b hk h.sz.1.2
 unfold tsStore
 have hd:((mStore t.mem a v).2 != 0) = !decide ((mStore t.mem a v).2=0):=rfl
 have hd2:(t.depth == 0)=decide (t.depth=0):=rfl
 rw [bufAt_at] at *
 unfold encMac at h1
 unfold encTso
 unfold tCells ivs at *
 unfold encMem mCells ivs at h2
 generalize mStore t.mem a v=ld at *
 obtain ⟨⟨ws,ts⟩,e⟩:=ld
 simp only at *
 generalize hbb:at' t.bufs (k:Int)=bb at *
 have hk1:(k:Int) < t.bufs.length:=by omega
 cases he:decide (e=0) with
 | false =>
  rw [he] at hd
  refine jC Tryz.func231 Tryz.ntmps231 (fun w0 β0 ext hβ=>?_)
  repeat (first|refine jS ?_|refine jD ?_|refine jB ?_|refine jV h1 ?_|refine jV h2 ?_)
  rw [hd]
  repeat (first|refine jS ?_|refine jD ?_|refine jB ?_)
  exact jR
 | true =>
  rw [he] at hd
  cases hz:decide (t.depth=0) with
  | true =>
   rw [hz] at hd2
   refine jC Tryz.func231 Tryz.ntmps231 (fun w0 β0 ext hβ=>?_)
   repeat (first|refine jS ?_|refine jD ?_|refine jB ?_|refine jV h1 ?_|refine jV h2 ?_)
   rw [hd]
   repeat (first|refine jS ?_|refine jD ?_|refine jB ?_)
   rw [hd2]
   repeat (first|refine jS ?_|refine jD ?_|refine jB ?_)
   exact jR
  | false =>
   rw [hz] at hd2
   cases hf:decide ((bb.length:Int)=t.depth) with
   | true =>
    rw [hf] at h3
    refine jC Tryz.func231 Tryz.ntmps231 (fun w0 β0 ext hβ=>?_)
    repeat (first|refine jS ?_|refine jD ?_|refine jB ?_|refine jV h1 ?_|refine jV h2 ?_)
    rw [hd]
    repeat (first|refine jS ?_|refine jD ?_|refine jB ?_)
    rw [hd2]
    repeat (first|refine jS ?_|refine jD ?_|refine jB ?_|refine jI (Int.natCast_nonneg k) hk1 ?_)
    rw [hbb]
    repeat (first|refine jS ?_|refine jD ?_|refine jB ?_|refine jV h3 ?_)
    exact jR
   | false =>
    rw [hf] at h3
    have h4:=h4 (bb++[⟨a,v⟩])
    simp only [cond_false] at h3 h4 ⊢
    refine jC Tryz.func231 Tryz.ntmps231 (fun w0 β0 ext hβ=>?_)
    repeat (first|refine jS ?_|refine jD ?_|refine jB ?_|refine jV h1 ?_|refine jV h2 ?_)
    rw [hd]
    repeat (first|refine jS ?_|refine jD ?_|refine jB ?_)
    rw [hd2]
    repeat (first|refine jS ?_|refine jD ?_|refine jB ?_|refine jI (Int.natCast_nonneg k) hk1 ?_)
    rw [hbb]
    repeat (first|refine jS ?_|refine jD ?_|refine jB ?_|refine jV h3 ?_)
    refine jBb [2] h4 ?_
    repeat (first|refine jS ?_|refine jD ?_|refine jB ?_)
    exact jR
theorem becomes_ok:ACalls Tryz.prog 272 [] [] (one (.agg [.fn (.func 289) [] [],.fn (.func 290) [] [],.fn (.func 291) [] []]) []):=by
 refine jC Tryz.func272 Tryz.ntmps272 (fun w0 β0 ext hβ=>?_)
 repeat (first|refine jS ?_|refine jD ?_|refine jB ?_)
 exact jR
theorem be1_ok (w a b:Int):ACalls Tryz.prog 289 [iv w,iv a,iv b] [] (one (iv (become 0 w a b)) []):=by
 have hd:(w == a)=decide (w=a):=rfl
 unfold become
 cases h:decide (w=a)
 all_goals (
  rw [h] at hd
  refine jC Tryz.func289 Tryz.ntmps289 (fun w0 β0 ext hβ=>?_)
  repeat (first|refine jS ?_|refine jD ?_|refine jB ?_)
  rw [hd]
  repeat (first|refine jS ?_|refine jD ?_|refine jB ?_)
 )
 all_goals exact jR
theorem be2_ok (w a b:Int):ACalls Tryz.prog 290 [iv w,iv a,iv b] [] (one (iv (become 1 w a b)) []):=by
 refine jC Tryz.func290 Tryz.ntmps290 (fun w0 β0 ext hβ=>?_)
 repeat (first|refine jS ?_|refine jD ?_|refine jB ?_)
 exact jR
theorem be3_ok (w a b:Int):ACalls Tryz.prog 291 [iv w,iv a,iv b] [] (one (iv (become 2 w a b)) []):=by
 refine jC Tryz.func291 Tryz.ntmps291 (fun w0 β0 ext hβ=>?_)
 repeat (first|refine jS ?_|refine jD ?_|refine jB ?_)
 exact jR
theorem locked_ok (t:Tso) (k:Nat) (kd a x y:Int) (h:TsR t) (hk:k < t.bufs.length) (hkd:kd=0∨kd=1∨kd=2) :
  ACalls Tryz.prog 232 [encTso t,iv (k:Int),iv kd,iv a,iv x,iv y] [] (one (.tup [encTso (tsLocked t k kd a x y).1,iv (tsLocked t k kd a x y).2.1,iv (tsLocked t k kd a x y).2.2]) []):=by
 have h1:=has_yes t k h hk
 have h2:=load_ok t.mem a h.mem
 have h3:=fun v=>store_ok t.mem a v h.mem
 have h4:=becomes_ok
 have h5:=fun v=>be1_ok v x y
 have h6:=fun v=>be2_ok v x y
 have h7:=fun v=>be3_ok v x y
 unfold tsLocked
 have hd:((mLoad t.mem a).2 != 0) = !decide ((mLoad t.mem a).2=0):=rfl
 rw [bufAt_at] at *
 unfold encMac at h1
 unfold encTso
 unfold tCells ivs at *
 unfold encMem mCells ivs at h2
 generalize mLoad t.mem a=ld at *
 obtain ⟨v,e⟩:=ld
 simp only at *
 have h3:=h3 (become kd v x y)
 generalize mStore t.mem a (become kd v x y)=st at *
 obtain ⟨⟨ws,ts⟩,e2⟩:=st
 unfold encMem mCells ivs at h3
 simp only at *
 generalize hbb:at' t.bufs (k:Int)=bb at *
 have hk1:(k:Int) < t.bufs.length:=by omega
 have hl:decide (((bb.map encPut).length:Int) > 0) = !decide (bb.length=0):=by rw [List.length_map];exact dec_not (by omega)
 cases hz:decide (bb.length=0) with
 | false =>
  rw [hz] at hl
  rcases hkd with rfl|rfl|rfl
  all_goals (
   refine jC Tryz.func232 Tryz.ntmps232 (fun w0 β0 ext hβ=>?_)
   repeat (first|refine jS ?_|refine jD ?_|refine jB ?_|refine jV h4 ?_|refine jV h1 ?_|refine jI (Int.natCast_nonneg k) hk1 ?_)
   rw [hbb]
   repeat (first|refine jS ?_|refine jD ?_|refine jB ?_)
   rw [hl]
   repeat (first|refine jS ?_|refine jD ?_|refine jB ?_)
  )
  all_goals exact jR
 | true =>
  rw [hz] at hl
  cases he:decide (e=0) with
  | false =>
   rw [he] at hd
   rcases hkd with rfl|rfl|rfl
   all_goals (
    refine jC Tryz.func232 Tryz.ntmps232 (fun w0 β0 ext hβ=>?_)
    repeat (first|refine jS ?_|refine jD ?_|refine jB ?_|refine jV h4 ?_|refine jV h1 ?_|refine jI (Int.natCast_nonneg k) hk1 ?_)
    rw [hbb]
    repeat (first|refine jS ?_|refine jD ?_|refine jB ?_)
    rw [hl]
    repeat (first|refine jS ?_|refine jD ?_|refine jB ?_|refine jV h2 ?_)
    rw [hd]
    repeat (first|refine jS ?_|refine jD ?_|refine jB ?_)
   )
   all_goals exact jR
  | true =>
   rw [he] at hd
   rcases hkd with rfl|rfl|rfl
   all_goals (
    refine jC Tryz.func232 Tryz.ntmps232 (fun w0 β0 ext hβ=>?_)
    repeat (first|refine jS ?_|refine jD ?_|refine jB ?_|refine jV h4 ?_|refine jV h1 ?_|refine jI (Int.natCast_nonneg k) hk1 ?_)
    rw [hbb]
    repeat (first|refine jS ?_|refine jD ?_|refine jB ?_)
    rw [hl]
    repeat (first|refine jS ?_|refine jD ?_|refine jB ?_|refine jV h2 ?_)
    rw [hd]
    repeat (first|refine jS ?_|refine jD ?_|refine jB ?_|refine jo rfl rfl (index_arr rfl rfl rfl rfl rfl (by omega) (by omega)) rfl rfl ?_|refine jV h3 ?_|refine jV (h5 v) ?_|refine jV (h6 v) ?_|refine jV (h7 v) ?_)
   )
   all_goals exact jR
end Go.AL
end
section
set_option maxRecDepth 100000
namespace Go.AL
open Go Go.Proofs
attribute [local irreducible] J
theorem thRight_pc {t:Thr} (h:thRight t=true):0≤t.pc∧t.pc≤1000:=by
 unfold thRight at h
 rw [Bool.and_eq_true,inn_iff] at h
 exact h.1
theorem call_ok (t:Thr) (to:Int) (hf:t.frames.length≤1000) (hl:t.left.length≤1000000):ACalls Tryz.prog 228 [encThr t,iv to] [] (one (.tup [resThr (frCall t to),iv (frCall t to).2]) []):=by
 have h1:=thr_right t (by omega) hl
 have h2:=place_ok to
 have h3:=clip_frm t.frames
 have hpc:=fun h=>thRight_pc (t:=t) h
 unfold frCall
 have e1:(t.pc == 1000)=decide (t.pc=1000):=rfl
 have e2:(((t.frames.map encFrm).length:Int) == 6)=decide (t.frames.length=6):=by rw [List.length_map,int_beq];exact decide_eq_decide.2 (by omega)
 have hfr:∀ f,t.frames.map encFrm++[encFrm f]=(t.frames++[f]).map encFrm:=fun f=>by rw [List.map_append];rfl
 unfold encThr thCells at *
 generalize thRight t=b1 at *
 generalize inn to 0 1000=b2 at *
 cases b1 with
 | false =>
  refine jC Tryz.func228 Tryz.ntmps228 (fun w0 β0 ext hβ=>?_)
  repeat (first|refine jS ?_|refine jD ?_|refine jB ?_|refine jV h1 ?_)
  exact jR
 | true =>
  have hpc:=hpc rfl
  have hw:IntKind.i64.wrap (t.pc+1)=t.pc+1:=by rw [wrap_id]<;>omega
  cases he:decide (t.pc=1000) with
  | true =>
   rw [he] at e1
   refine jC Tryz.func228 Tryz.ntmps228 (fun w0 β0 ext hβ=>?_)
   repeat (first|refine jS ?_|refine jD ?_|refine jB ?_|refine jV h1 ?_)
   rw [e1]
   repeat (first|refine jS ?_|refine jD ?_|refine jB ?_)
   exact jR
  | false =>
   rw [he] at e1
   cases b2 with
   | false =>
    refine jC Tryz.func228 Tryz.ntmps228 (fun w0 β0 ext hβ=>?_)
    repeat (first|refine jS ?_|refine jD ?_|refine jB ?_|refine jV h1 ?_)
    rw [e1]
    repeat (first|refine jS ?_|refine jD ?_|refine jB ?_|refine jV h2 ?_)
    exact jR
   | true =>
    cases h6:decide (t.frames.length=6) with
    | true =>
     rw [h6] at e2
     refine jC Tryz.func228 Tryz.ntmps228 (fun w0 β0 ext hβ=>?_)
     repeat (first|refine jS ?_|refine jD ?_|refine jB ?_|refine jV h1 ?_)
     rw [e1]
     repeat (first|refine jS ?_|refine jD ?_|refine jB ?_|refine jV h2 ?_)
     rw [e2]
     repeat (first|refine jS ?_|refine jD ?_|refine jB ?_)
     exact jR
    | false =>
     rw [h6] at e2
     have h3:=h3
     refine jC Tryz.func228 Tryz.ntmps228 (fun w0 β0 ext hβ=>?_)
     repeat (first|refine jS ?_|refine jD ?_|refine jB ?_|refine jV h1 ?_)
     rw [e1]
     repeat (first|refine jS ?_|refine jD ?_|refine jB ?_|refine jV h2 ?_)
     rw [e2]
     repeat (first|refine jS ?_|refine jD ?_|refine jB ?_)
     rw [hw]
     repeat (first|refine jS ?_|refine jD ?_|refine jB ?_|refine jo rfl rfl (slice_box 0 4 rfl rfl rfl rfl rfl rfl (by decide) (by decide) (by decide)) rfl rfl ?_|refine jo rfl rfl (slice_box 4 8 rfl ⟨_,rfl⟩ rfl rfl rfl rfl (by decide) (by decide) (by decide)) rfl rfl ?_)
     refine jo rfl rfl (copy_bs rfl rfl rfl rfl rfl rfl rfl rfl (Nat.le_of_ble_eq_true rfl) (Nat.le_of_ble_eq_true rfl) rfl) rfl rfl ?_
     repeat (first|refine jS ?_|refine jD ?_|refine jB ?_|refine jV h3 ?_)
     refine jo rfl rfl (append_new (ys:=[encFrm ⟨t.pc+1,[g0 t.regs 4,g0 t.regs 5,g0 t.regs 6,g0 t.regs 7]⟩]) rfl rfl (.sl rfl) rfl rfl rfl rfl rfl (elems_frm t.frames) (elems_frm [⟨t.pc+1,[g0 t.regs 4,g0 t.regs 5,g0 t.regs 6,g0 t.regs 7]⟩]) rfl (by simp) (by simp [ty174];omega) (by simp;omega)) rfl rfl ?_
     rw [hfr]
     repeat (first|refine jS ?_|refine jD ?_|refine jB ?_)
     exact jR
theorem last_at {l:List Frm} (h:l≠[]):l.getLast? = some (at' l ((l.length-1:Nat):Int)):=by
 have hl:0 < l.length:=List.length_pos_iff.2 h
 rw [at_nat l _ (by omega),List.getLast?_eq_getElem?,List.getElem?_eq_getElem (by omega)]
theorem back_ok (t:Thr) (hf:t.frames.length≤1000) (hl:t.left.length≤1000000):ACalls Tryz.prog 229 [encThr t] [] (one (.tup [resThr (frBack t),iv (frBack t).2]) []):=by
 have h1:=thr_right t (by omega) hl
 unfold frBack
 have e2:(((t.frames.map encFrm).length:Int) == 0)=decide (t.frames=[]):=by rw [List.length_map,int_beq];exact decide_eq_decide.2 (by rw [←List.length_eq_zero_iff];omega)
 unfold encThr thCells at *
 generalize thRight t=b1 at *
 cases b1 with
 | false =>
  refine jC Tryz.func229 Tryz.ntmps229 (fun w0 β0 ext hβ=>?_)
  repeat (first|refine jS ?_|refine jD ?_|refine jB ?_|refine jV h1 ?_)
  exact jR
 | true =>
  cases he:decide (t.frames=[]) with
  | true =>
   rw [he] at e2
   have hg:t.frames.getLast? = none:=by rw [of_decide_eq_true he];rfl
   rw [hg]
   refine jC Tryz.func229 Tryz.ntmps229 (fun w0 β0 ext hβ=>?_)
   repeat (first|refine jS ?_|refine jD ?_|refine jB ?_|refine jV h1 ?_)
   rw [e2]
   repeat (first|refine jS ?_|refine jD ?_|refine jB ?_)
   exact jR
  | false =>
   rw [he] at e2
   have hne:=of_decide_eq_false he
   have hpos:0 < t.frames.length:=List.length_pos_iff.2 hne
   rw [last_at hne]
   have hw:IntKind.i64.wrap (((t.frames.map encFrm).length:Int)-1)=((t.frames.length-1:Nat):Int):=by rw [List.length_map,wrap_id]<;>omega
   have hlt:((t.frames.length-1:Nat):Int) < t.frames.length:=by omega
   have hc:=clone_frm_v t.frames.dropLast (by rw [List.length_dropLast];omega)
   have hd:(t.frames.drop 0).take (t.frames.length-1-0)=t.frames.dropLast:=by rw [List.dropLast_eq_take];rfl
   generalize hx:at' t.frames ((t.frames.length-1:Nat):Int)=f at *
   refine jC Tryz.func229 Tryz.ntmps229 (fun w0 β0 ext hβ=>?_)
   repeat (first|refine jS ?_|refine jD ?_|refine jB ?_|refine jV h1 ?_)
   rw [e2]
   repeat (first|refine jS ?_|refine jD ?_|refine jB ?_)
   rw [hw]
   repeat (first|refine jS ?_|refine jD ?_|refine jB ?_|refine jI (Int.natCast_nonneg _) hlt ?_)
   rw [hx]
   repeat (first|refine jS ?_|refine jD ?_|refine jB ?_)
   refine jo rfl rfl (cut_enc (enc:=encFrm) (l:=t.frames) 0 (t.frames.length-1) rfl rfl rfl ⟨_,rfl⟩ rfl rfl rfl (fun x=>⟨rfl,rfl⟩) (by omega) (by omega)) rfl rfl ?_
   rw [hd]
   repeat (first|refine jS ?_|refine jD ?_|refine jB ?_|refine jV hc ?_|refine jo rfl rfl (slice_box 0 4 rfl rfl rfl rfl rfl rfl (by decide) (by decide) (by decide)) rfl rfl ?_|refine jo rfl rfl (slice_box 4 8 rfl ⟨_,rfl⟩ rfl rfl rfl rfl (by decide) (by decide) (by decide)) rfl rfl ?_)
   refine jo rfl rfl (copy_bs rfl rfl rfl rfl rfl rfl rfl rfl (Nat.le_of_ble_eq_true rfl) (Nat.le_of_ble_eq_true rfl) rfl) rfl rfl ?_
   repeat (first|refine jS ?_|refine jD ?_|refine jB ?_)
   exact jR
end Go.AL
end
