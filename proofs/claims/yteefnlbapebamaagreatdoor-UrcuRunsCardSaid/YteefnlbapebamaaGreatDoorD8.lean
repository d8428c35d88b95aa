/-
  Part 8 of the proof texts: the program logic over the model, then the contracts of the functions that the laws reach. No conditions.
-/
import Derived.Test.YteefnlbapebamaaGreatDoorD7
set_option linter.unusedVariables false
set_option linter.unusedSimpArgs false
set_option maxHeartbeats 2000000
section
set_option maxRecDepth 100000
namespace Go.AL
open Go Go.Proofs
attribute [local irreducible] J
def fidxG {α:Type} (p:α→Bool) (l:List α):Int:=match l.findIdx? p with|some i=>i|none=>-1
theorem at_mem {α:Type} [Inhabited α] {l:List α} {k:Nat} (h:k < l.length):at' l (k:Int)∈l:=by
 rw [at_nat l k h];exact List.getElem_mem h
theorem fidxG_some {α:Type} [Inhabited α] {p:α→Bool} {l:List α} {k:Nat} (h:k < l.length) (hb:p (at' l (k:Int))=true) (hok:∀ q,q < k→p (at' l (q:Int))=false):fidxG p l=(k:Int):=by
 unfold fidxG
 rw [at_nat l k h] at hb
 rw [List.findIdx?_eq_some_iff_getElem.2 ⟨h,hb,fun j hj=>by
  have e2:=hok j hj
  rw [at_nat l j (by omega)] at e2
  simp [e2]⟩]
theorem fidxG_none {α:Type} [Inhabited α] {p:α→Bool} {l:List α} (hok:∀ q,q < l.length→p (at' l (q:Int))=false):fidxG p l = -1:=by
 unfold fidxG
 rw [List.findIdx?_eq_none_iff.2 fun x hx=>?_]
 obtain ⟨i,hi,rfl⟩:=List.getElem_of_mem hx
 have e2:=hok i hi
 rw [at_nat l i hi] at e2
 exact e2
theorem fidxG_any {α:Type} (p:α→Bool) (l:List α):decide (fidxG p l≥0)=l.any p:=by
 unfold fidxG
 cases hf:l.findIdx? p with
 | some i =>
  obtain ⟨hi,h3,_⟩:=List.findIdx?_eq_some_iff_getElem.1 hf
  have:l.any p=true:=by
   rw [List.any_eq_true]
   exact ⟨_,List.getElem_mem hi,h3⟩
  rw [this];simp
 | none =>
  rw [List.findIdx?_eq_none_iff] at hf
  have:l.any p=false:=by
   rw [List.any_eq_false]
   intro x hx
   simp [hf x hx]
  rw [this];rfl
theorem findex_put (f:FuncId) (xs:List (Wput)) (p:Wput→Bool) (a b c:List AVal) (d:Int) (hl:xs.length≤1000000) (hc:∀ x∈xs,ACalls Tryz.prog f [encPut x,.ptr 0 0] [.box 29 [.sl a,.sl b,iv d,.sl c]] (one (bv (p x)) [.box 29 [.sl a,.sl b,iv d,.sl c]])):ACalls Tryz.prog 184 [.sl (xs.map encPut),.fn (.func f) [] [.ptr 0 0]] [.box 29 [.sl a,.sl b,iv d,.sl c]] (one (iv (fidxG p xs)) [.box 29 [.sl a,.sl b,iv d,.sl c]]):=by
 refine jC Tryz.func184 Tryz.ntmps184 (fun w0 β0 ext hβ=>?_)
 repeat (first|refine jS ?_|refine jD ?_|refine jB ?_)
 refine jloopI (fun k:Nat=>k≤xs.length∧∀ q,q < k→p (at' xs (q:Int))=false) [0,1,8,7] (fun k=>[.sl (xs.map encPut),.fn (.func f) [] [.ptr 0 0],.v (.int .i64 (k:Int)),.v (.int .i64 ((xs.map encPut).length:Int))])
  (fun _=>[.box 29 [.sl a,.sl b,iv d,.sl c]]) (fun k=>xs.length-k) 0 ⟨Nat.zero_le _,fun q h=>absurd h (by omega)⟩ rfl rfl (fun k hk=>?_)
 obtain ⟨hk,hok⟩:=hk
 repeat (first|refine jS ?_|refine jD ?_|refine jB ?_)
 refine jc rfl rfl rfl (fun h=>?_) (fun h=>?_)
 ·have h:=of_decide_eq_true h
  rw [List.length_map] at h
  have hk2:k < xs.length:=by omega
  have hcx:=hc (at' xs (k:Int)) (at_mem hk2)
  repeat (first|refine jS ?_|refine jD ?_|refine jB ?_|refine jI (Int.natCast_nonneg k) h ?_)
  refine jBb [0] hcx ?_
  cases hb:p (at' xs (k:Int)) with
  | true =>
   repeat (first|refine jS ?_|refine jD ?_|refine jB ?_)
   rw [fidxG_some hk2 hb hok]
   exact jR
  | false =>
   repeat (first|refine jS ?_|refine jD ?_|refine jB ?_)
   refine jnextI (k+1) ⟨by omega,fun q hq=>?_⟩ ?_ rfl (by omega)
   ·by_cases e:q=k
    ·subst e;exact hb
    ·exact hok q (by omega)
   ·show some _=some _
    rw [idx_next hk2 (by omega)]
 ·have h:=of_decide_eq_false h
  rw [List.length_map] at h
  repeat (first|refine jS ?_|refine jD ?_|refine jB ?_)
  rw [fidxG_none (fun q hq=>hok q (by omega))]
  exact jR
theorem contains_put (f:FuncId) (xs:List (Wput)) (p:Wput→Bool) (a b c:List AVal) (d:Int) (hl:xs.length≤1000000) (hc:∀ x∈xs,ACalls Tryz.prog f [encPut x,.ptr 0 0] [.box 29 [.sl a,.sl b,iv d,.sl c]] (one (bv (p x)) [.box 29 [.sl a,.sl b,iv d,.sl c]])):ACalls Tryz.prog 136 [.sl (xs.map encPut),.fn (.func f) [] [.ptr 0 0]] [.box 29 [.sl a,.sl b,iv d,.sl c]] (one (bv (xs.any p)) [.box 29 [.sl a,.sl b,iv d,.sl c]]):=by
 have h1:=findex_put f xs p a b c d hl hc
 have h2:=fidxG_any p xs
 refine jC Tryz.func136 Tryz.ntmps136 (fun w0 β0 ext hβ=>?_)
 repeat (first|refine jS ?_|refine jD ?_|refine jB ?_)
 refine jBb [0] h1 ?_
 repeat (first|refine jS ?_|refine jD ?_|refine jB ?_)
 rw [h2]
 exact jR
theorem findex_thr (f:FuncId) (xs:List (Thr)) (p:Thr→Bool) (a b c e g1 g2:List AVal) (d:Int) (hl:xs.length≤1000000) (hc:∀ x∈xs,ACalls Tryz.prog f [encThr x,.ptr 0 0] [.box 33 [.sl a,.sl b,.sl c,iv d,.sl e,.sl g1,.sl g2]] (one (bv (p x)) [.box 33 [.sl a,.sl b,.sl c,iv d,.sl e,.sl g1,.sl g2]])):ACalls Tryz.prog 138 [.sl (xs.map encThr),.fn (.func f) [] [.ptr 0 0]] [.box 33 [.sl a,.sl b,.sl c,iv d,.sl e,.sl g1,.sl g2]] (one (iv (fidxG p xs)) [.box 33 [.sl a,.sl b,.sl c,iv d,.sl e,.sl g1,.sl g2]]):=by
 refine jC Tryz.func138 Tryz.ntmps138 (fun w0 β0 ext hβ=>?_)
 repeat (first|refine jS ?_|refine jD ?_|refine jB ?_)
 refine jloopI (fun k:Nat=>k≤xs.length∧∀ q,q < k→p (at' xs (q:Int))=false) [0,1,8,7] (fun k=>[.sl (xs.map encThr),.fn (.func f) [] [.ptr 0 0],.v (.int .i64 (k:Int)),.v (.int .i64 ((xs.map encThr).length:Int))])
  (fun _=>[.box 33 [.sl a,.sl b,.sl c,iv d,.sl e,.sl g1,.sl g2]]) (fun k=>xs.length-k) 0 ⟨Nat.zero_le _,fun q h=>absurd h (by omega)⟩ rfl rfl (fun k hk=>?_)
 obtain ⟨hk,hok⟩:=hk
 repeat (first|refine jS ?_|refine jD ?_|refine jB ?_)
 refine jc rfl rfl rfl (fun h=>?_) (fun h=>?_)
 ·have h:=of_decide_eq_true h
  rw [List.length_map] at h
  have hk2:k < xs.length:=by omega
  have hcx:=hc (at' xs (k:Int)) (at_mem hk2)
  repeat (first|refine jS ?_|refine jD ?_|refine jB ?_|refine jI (Int.natCast_nonneg k) h ?_)
  refine jBb [0] hcx ?_
  cases hb:p (at' xs (k:Int)) with
  | true =>
   repeat (first|refine jS ?_|refine jD ?_|refine jB ?_)
   rw [fidxG_some hk2 hb hok]
   exact jR
  | false =>
   repeat (first|refine jS ?_|refine jD ?_|refine jB ?_)
   refine jnextI (k+1) ⟨by omega,fun q hq=>?_⟩ ?_ rfl (by omega)
   ·by_cases e:q=k
    ·subst e;exact hb
    ·exact hok q (by omega)
   ·show some _=some _
    rw [idx_next hk2 (by omega)]
 ·have h:=of_decide_eq_false h
  rw [List.length_map] at h
  repeat (first|refine jS ?_|refine jD ?_|refine jB ?_)
  rw [fidxG_none (fun q hq=>hok q (by omega))]
  exact jR
theorem contains_thr (f:FuncId) (xs:List (Thr)) (p:Thr→Bool) (a b c e g1 g2:List AVal) (d:Int) (hl:xs.length≤1000000) (hc:∀ x∈xs,ACalls Tryz.prog f [encThr x,.ptr 0 0] [.box 33 [.sl a,.sl b,.sl c,iv d,.sl e,.sl g1,.sl g2]] (one (bv (p x)) [.box 33 [.sl a,.sl b,.sl c,iv d,.sl e,.sl g1,.sl g2]])):ACalls Tryz.prog 88 [.sl (xs.map encThr),.fn (.func f) [] [.ptr 0 0]] [.box 33 [.sl a,.sl b,.sl c,iv d,.sl e,.sl g1,.sl g2]] (one (bv (xs.any p)) [.box 33 [.sl a,.sl b,.sl c,iv d,.sl e,.sl g1,.sl g2]]):=by
 have h1:=findex_thr f xs p a b c e g1 g2 d hl hc
 have h2:=fidxG_any p xs
 refine jC Tryz.func88 Tryz.ntmps88 (fun w0 β0 ext hβ=>?_)
 repeat (first|refine jS ?_|refine jD ?_|refine jB ?_)
 refine jBb [0] h1 ?_
 repeat (first|refine jS ?_|refine jD ?_|refine jB ?_)
 rw [h2]
 exact jR
theorem findex_frm (f:FuncId) (xs:List (Frm)) (p:Frm→Bool) (hl:xs.length≤1000000) (hc:∀ x∈xs,ACalls Tryz.prog f [encFrm x] [] (one (bv (p x)) [])):ACalls Tryz.prog 185 [.sl (xs.map encFrm),.fn (.func f) [] []] [] (one (iv (fidxG p xs)) []):=by
 refine jC Tryz.func185 Tryz.ntmps185 (fun w0 β0 ext hβ=>?_)
 repeat (first|refine jS ?_|refine jD ?_|refine jB ?_)
 refine jloopI (fun k:Nat=>k≤xs.length∧∀ q,q < k→p (at' xs (q:Int))=false) [0,1,8,7] (fun k=>[.sl (xs.map encFrm),.fn (.func f) [] [],.v (.int .i64 (k:Int)),.v (.int .i64 ((xs.map encFrm).length:Int))])
  (fun _=>[]) (fun k=>xs.length-k) 0 ⟨Nat.zero_le _,fun q h=>absurd h (by omega)⟩ rfl rfl (fun k hk=>?_)
 obtain ⟨hk,hok⟩:=hk
 repeat (first|refine jS ?_|refine jD ?_|refine jB ?_)
 refine jc rfl rfl rfl (fun h=>?_) (fun h=>?_)
 ·have h:=of_decide_eq_true h
  rw [List.length_map] at h
  have hk2:k < xs.length:=by omega
  have hcx:=hc (at' xs (k:Int)) (at_mem hk2)
  repeat (first|refine jS ?_|refine jD ?_|refine jB ?_|refine jI (Int.natCast_nonneg k) h ?_)
  repeat (first|refine jS ?_|refine jD ?_|refine jB ?_|refine jV hcx ?_)
  cases hb:p (at' xs (k:Int)) with
  | true =>
   repeat (first|refine jS ?_|refine jD ?_|refine jB ?_)
   rw [fidxG_some hk2 hb hok]
   exact jR
  | false =>
   repeat (first|refine jS ?_|refine jD ?_|refine jB ?_)
   refine jnextI (k+1) ⟨by omega,fun q hq=>?_⟩ ?_ rfl (by omega)
   ·by_cases e:q=k
    ·subst e;exact hb
    ·exact hok q (by omega)
   ·show some _=some _
    rw [idx_next hk2 (by omega)]
 ·have h:=of_decide_eq_false h
  rw [List.length_map] at h
  repeat (first|refine jS ?_|refine jD ?_|refine jB ?_)
  rw [fidxG_none (fun q hq=>hok q (by omega))]
  exact jR
theorem contains_frm (f:FuncId) (xs:List (Frm)) (p:Frm→Bool) (hl:xs.length≤1000000) (hc:∀ x∈xs,ACalls Tryz.prog f [encFrm x] [] (one (bv (p x)) [])):ACalls Tryz.prog 140 [.sl (xs.map encFrm),.fn (.func f) [] []] [] (one (bv (xs.any p)) []):=by
 have h1:=findex_frm f xs p hl hc
 have h2:=fidxG_any p xs
 refine jC Tryz.func140 Tryz.ntmps140 (fun w0 β0 ext hβ=>?_)
 repeat (first|refine jS ?_|refine jD ?_|refine jB ?_)
 repeat (first|refine jS ?_|refine jD ?_|refine jB ?_|refine jV h1 ?_)
 repeat (first|refine jS ?_|refine jD ?_|refine jB ?_)
 rw [h2]
 exact jR
theorem findex_int (f:FuncId) (xs:List (Int)) (p:Int→Bool) (hl:xs.length≤1000000) (hc:∀ x∈xs,ACalls Tryz.prog f [iv x] [] (one (bv (p x)) [])):ACalls Tryz.prog 186 [.sl (xs.map iv),.fn (.func f) [] []] [] (one (iv (fidxG p xs)) []):=by
 refine jC Tryz.func186 Tryz.ntmps186 (fun w0 β0 ext hβ=>?_)
 repeat (first|refine jS ?_|refine jD ?_|refine jB ?_)
 refine jloopI (fun k:Nat=>k≤xs.length∧∀ q,q < k→p (at' xs (q:Int))=false) [0,1,8,7] (fun k=>[.sl (xs.map iv),.fn (.func f) [] [],.v (.int .i64 (k:Int)),.v (.int .i64 ((xs.map iv).length:Int))])
  (fun _=>[]) (fun k=>xs.length-k) 0 ⟨Nat.zero_le _,fun q h=>absurd h (by omega)⟩ rfl rfl (fun k hk=>?_)
 obtain ⟨hk,hok⟩:=hk
 repeat (first|refine jS ?_|refine jD ?_|refine jB ?_)
 refine jc rfl rfl rfl (fun h=>?_) (fun h=>?_)
 ·have h:=of_decide_eq_true h
  rw [List.length_map] at h
  have hk2:k < xs.length:=by omega
  have hcx:=hc (at' xs (k:Int)) (at_mem hk2)
  repeat (first|refine jS ?_|refine jD ?_|refine jB ?_|refine jI (Int.natCast_nonneg k) h ?_)
  repeat (first|refine jS ?_|refine jD ?_|refine jB ?_|refine jV hcx ?_)
  cases hb:p (at' xs (k:Int)) with
  | true =>
   repeat (first|refine jS ?_|refine jD ?_|refine jB ?_)
   rw [fidxG_some hk2 hb hok]
   exact jR
  | false =>
   repeat (first|refine jS ?_|refine jD ?_|refine jB ?_)
   refine jnextI (k+1) ⟨by omega,fun q hq=>?_⟩ ?_ rfl (by omega)
   ·by_cases e:q=k
    ·subst e;exact hb
    ·exact hok q (by omega)
   ·show some _=some _
    rw [idx_next hk2 (by omega)]
 ·have h:=of_decide_eq_false h
  rw [List.length_map] at h
  repeat (first|refine jS ?_|refine jD ?_|refine jB ?_)
  rw [fidxG_none (fun q hq=>hok q (by omega))]
  exact jR
theorem contains_int (f:FuncId) (xs:List (Int)) (p:Int→Bool) (hl:xs.length≤1000000) (hc:∀ x∈xs,ACalls Tryz.prog f [iv x] [] (one (bv (p x)) [])):ACalls Tryz.prog 142 [.sl (xs.map iv),.fn (.func f) [] []] [] (one (bv (xs.any p)) []):=by
 have h1:=findex_int f xs p hl hc
 have h2:=fidxG_any p xs
 refine jC Tryz.func142 Tryz.ntmps142 (fun w0 β0 ext hβ=>?_)
 repeat (first|refine jS ?_|refine jD ?_|refine jB ?_)
 repeat (first|refine jS ?_|refine jD ?_|refine jB ?_|refine jV h1 ?_)
 repeat (first|refine jS ?_|refine jD ?_|refine jB ?_)
 rw [h2]
 exact jR
end Go.AL
end
section
set_option maxRecDepth 100000
namespace Go.AL
open Go Go.Proofs
attribute [local irreducible] J
theorem place_ok (n:Int):ACalls Tryz.prog 139 [iv n] [] (one (bv (inn n 0 1000)) []):=by
 unfold inn
 cases h1:decide (n≥0) with
 | false =>
  refine jC Tryz.func139 Tryz.ntmps139 (fun w0 β0 ext hβ=>?_)
  repeat (first|refine jS ?_|refine jD ?_|refine jB ?_)
  rw [h1]
  repeat (first|refine jS ?_|refine jD ?_|refine jB ?_)
  exact jR
 | true =>
  refine jC Tryz.func139 Tryz.ntmps139 (fun w0 β0 ext hβ=>?_)
  repeat (first|refine jS ?_|refine jD ?_|refine jB ?_)
  rw [h1]
  repeat (first|refine jS ?_|refine jD ?_|refine jB ?_)
  exact jR
theorem fr1_ok (f:Frm):ACalls Tryz.prog 141 [encFrm f] [] (one (bv (!inn f.back 0 1000)) []):=by
 have h:=place_ok f.back
 unfold encFrm
 refine jC Tryz.func141 Tryz.ntmps141 (fun w0 β0 ext hβ=>?_)
 repeat (first|refine jS ?_|refine jD ?_|refine jB ?_|refine jV h ?_)
 exact jR
theorem fr2_ok (n:Int):ACalls Tryz.prog 143 [iv n] [] (one (bv (!inn n 0 8)) []):=by
 have e:(!inn n 0 8)=(decide (n < 0)||decide (n > 8)):=by
  unfold inn;rw [dec_not (p:=n < 0) (q:=n≥0) (by omega),dec_not (p:=n > 8) (q:=n≤8) (by omega),Bool.not_and]
 rw [e]
 cases h1:decide (n < 0) with
 | false =>
  refine jC Tryz.func143 Tryz.ntmps143 (fun w0 β0 ext hβ=>?_)
  repeat (first|refine jS ?_|refine jD ?_|refine jB ?_)
  rw [h1]
  repeat (first|refine jS ?_|refine jD ?_|refine jB ?_)
  exact jR
 | true =>
  refine jC Tryz.func143 Tryz.ntmps143 (fun w0 β0 ext hβ=>?_)
  repeat (first|refine jS ?_|refine jD ?_|refine jB ?_)
  rw [h1]
  repeat (first|refine jS ?_|refine jD ?_|refine jB ?_)
  exact jR
theorem any_not {α:Type} (l:List α) (p:α→Bool):(l.any fun x=>!p x) = !l.all p:=by
 induction l with
 | nil=>rfl
 | cons a l ih=>simp only [List.any_cons,List.all_cons,ih];cases p a<;>rfl
theorem thr_right (t:Thr) (hf:t.frames.length≤1000000) (hl:t.left.length≤1000000):ACalls Tryz.prog 90 [encThr t] [] (one (bv (thRight t)) []):=by
 have hp:=place_ok t.pc
 have h1:=contains_frm 141 t.frames (fun f=>!inn f.back 0 1000) hf (fun f _=>fr1_ok f)
 have h2:=contains_int 143 t.left (fun n=>!inn n 0 8) hl (fun n _=>fr2_ok n)
 rw [any_not] at h1 h2
 have f1:decide (((t.frames.map encFrm).length:Int) > 6) = !decide (t.frames.length≤6):=by rw [List.length_map];exact dec_not (by omega)
 have f2:decide (((t.left.map iv).length:Int) > 8) = !decide (t.left.length≤8):=by rw [List.length_map];exact dec_not (by omega)
 have f3:(t.state == 0)=decide (t.state=0):=rfl
 have f4:(t.state == 1)=decide (t.state=1):=rfl
 have f5:(t.state == 2)=decide (t.state=2):=rfl
 have f6:(t.fault == 0)=decide (t.fault=0):=rfl
 have f7:inn t.fault 1 16=(decide (t.fault > 0)&&decide (t.fault≤16)):=by unfold inn;rw [Bool.eq_iff_iff];simp;omega
 unfold thRight
 rw [f7]
 unfold encThr thCells
 generalize (t.frames.all fun f=>inn f.back 0 1000)=a1 at *
 generalize (t.left.all fun n=>inn n 0 8)=a2 at *
 generalize inn t.pc 0 1000=a0 at *
 generalize g0 t.regs 0=r0
 generalize g0 t.regs 1=r1
 generalize g0 t.regs 2=r2
 generalize g0 t.regs 3=r3
 generalize g0 t.regs 4=r4
 generalize g0 t.regs 5=r5
 generalize g0 t.regs 6=r6
 generalize g0 t.regs 7=r7
 generalize decide (t.frames.length≤6)=b1 at *
 generalize decide (t.left.length≤8)=b2 at *
 generalize decide (t.state=0)=b3 at *
 generalize decide (t.state=1)=b4 at *
 generalize decide (t.state=2)=b5 at *
 generalize decide (t.fault=0)=b6 at *
 refine jC Tryz.func90 Tryz.ntmps90 (fun w0 β0 ext hβ=>?_)
 repeat (first|refine jS ?_|refine jD ?_|refine jB ?_|refine jV hp ?_)
 cases a0 with
 | false =>
  repeat (first|refine jS ?_|refine jD ?_|refine jB ?_)
  exact jR
 | true =>
  repeat (first|refine jS ?_|refine jD ?_|refine jB ?_)
  rw [f1]
  cases b1 with
  | false =>
   repeat (first|refine jS ?_|refine jD ?_|refine jB ?_)
   exact jR
  | true =>
   repeat (first|refine jS ?_|refine jD ?_|refine jB ?_)
   rw [f2]
   cases b2 with
   | false =>
    repeat (first|refine jS ?_|refine jD ?_|refine jB ?_)
    exact jR
   | true =>
    repeat (first|refine jS ?_|refine jD ?_|refine jB ?_|refine jV h1 ?_)
    cases a1 with
    | false =>
     repeat (first|refine jS ?_|refine jD ?_|refine jB ?_)
     exact jR
    | true =>
     repeat (first|refine jS ?_|refine jD ?_|refine jB ?_|refine jw h2 rfl rfl rfl rfl rfl rfl ?_)
     cases a2 with
     | false =>
      repeat (first|refine jS ?_|refine jD ?_|refine jB ?_)
      exact jR
     | true =>
      repeat (first|refine jS ?_|refine jD ?_|refine jB ?_)
      rw [f3]
      cases b3 with
      | true =>
       repeat (first|refine jS ?_|refine jD ?_|refine jB ?_)
       rw [f6]
       exact jR
      | false =>
       repeat (first|refine jS ?_|refine jD ?_|refine jB ?_)
       rw [f4]
       cases b4 with
       | true =>
        repeat (first|refine jS ?_|refine jD ?_|refine jB ?_)
        rw [f6]
        exact jR
       | false =>
        repeat (first|refine jS ?_|refine jD ?_|refine jB ?_)
        rw [f5]
        cases b5 with
        | false =>
         repeat (first|refine jS ?_|refine jD ?_|refine jB ?_)
         exact jR
        | true =>
         repeat (first|refine jS ?_|refine jD ?_|refine jB ?_)
         cases h:decide (t.fault > 0)
         all_goals (
          repeat (first|refine jS ?_|refine jD ?_|refine jB ?_)
         )
         all_goals exact jR
theorem sizes_ok (n d:Int):ACalls Tryz.prog 135 [iv n,iv d] [] (one (bv (inn n 1 8&&inn d 0 8)) []):=by
 unfold inn
 refine jC Tryz.func135 Tryz.ntmps135 (fun w0 β0 ext hβ=>?_)
 repeat (first|refine jS ?_|refine jD ?_|refine jB ?_)
 cases h1:decide (n≥1) with
 | false =>
  repeat (first|refine jS ?_|refine jD ?_|refine jB ?_)
  exact jR
 | true =>
  repeat (first|refine jS ?_|refine jD ?_|refine jB ?_)
  cases h2:decide (n≤8) with
  | false =>
   repeat (first|refine jS ?_|refine jD ?_|refine jB ?_)
   exact jR
  | true =>
   repeat (first|refine jS ?_|refine jD ?_|refine jB ?_)
   cases h3:decide (d≥0) with
   | false =>
    repeat (first|refine jS ?_|refine jD ?_|refine jB ?_)
    exact jR
   | true =>
    repeat (first|refine jS ?_|refine jD ?_|refine jB ?_)
    exact jR
def tsH (t:Tso):List AObj:=[.box 29 [.sl (t.mem.words.map iv),.sl (t.mem.tags.map iv),iv t.depth,.sl (t.bufs.map encBuf)]]
theorem ts1_ok (t:Tso) (p:Wput) (hw:t.mem.words.length≤1000000):ACalls Tryz.prog 137 [encPut p,.ptr 0 0] (tsH t) (one (bv (!inn p.loc 0 (t.mem.words.length-1))) (tsH t)):=by
 have e:(!inn p.loc 0 (t.mem.words.length-1))=(decide (p.loc < 0)||decide (p.loc≥((t.mem.words.map iv).length:Int))):=by
  rw [List.length_map]
  unfold inn;rw [dec_not (p:=p.loc < 0) (q:=p.loc≥0) (by omega),dec_not (p:=p.loc≥(t.mem.words.length:Int)) (q:=p.loc≤(t.mem.words.length:Int)-1) (by omega),Bool.not_and]
 rw [e]
 unfold encPut tsH
 refine jC Tryz.func137 Tryz.ntmps137 (fun w0 β0 ext hβ=>?_)
 repeat (first|refine jS ?_|refine jD ?_|refine jB ?_)
 cases h1:decide (p.loc < 0) with
 | false =>
  repeat (first|refine jS ?_|refine jD ?_|refine jB ?_)
  exact jR
 | true =>
  repeat (first|refine jS ?_|refine jD ?_|refine jB ?_)
  exact jR
def buOk (t:Tso) (b:List Wput):Bool:=decide ((b.length:Int)≤t.depth)&&b.all fun p=>inn p.loc 0 (t.mem.words.length-1)
theorem allAt {α:Type} [Inhabited α] {l:List α} {p:α→Bool}:((∀ q,q < l.length→p (at' l (q:Int))=true)→l.all p=true)∧∀ q,q < l.length→p (at' l (q:Int))=false→l.all p=false:=by
 refine ⟨fun hq=>?_,fun q hq hp=>?_⟩
 ·rw [List.all_eq_true]
  intro x hx
  obtain ⟨i,hi,rfl⟩:=List.getElem_of_mem hx
  have:=hq i hi
  rwa [at_nat l i hi] at this
 ·rw [List.all_eq_false]
  refine ⟨l[q],List.getElem_mem hq,?_⟩
  rw [at_nat l q hq] at hp
  simp [hp]
structure TsSz (t:Tso):Prop where
 words:t.mem.words.length≤1000000
 tags:t.mem.tags.length≤1000000
 bufs:t.bufs.length≤1000000
 puts:∀ b∈t.bufs,b.length≤1000000
theorem tso_right (t:Tso) (h:TsSz t):ACalls Tryz.prog 87 [encTso t] [] (one (bv (tsRight t)) []):=by
 have h1:=mem_right t.mem h.words h.tags
 have h2:=sizes_ok ((t.bufs.map encBuf).length:Int) t.depth
 have e1:(inn ((t.bufs.map encBuf).length:Int) 1 8&&inn t.depth 0 8)=szOk t.bufs.length t.depth:=by
  rw [List.length_map];unfold szOk inn
  rw [decide_eq_decide.2 (show (t.bufs.length:Int)≥1↔1≤t.bufs.length by omega),decide_eq_decide.2 (show (t.bufs.length:Int)≤8↔t.bufs.length≤8 by omega),Bool.and_assoc]
 rw [e1] at h2
 have h3:=fun (b:List Wput) (hb:b.length≤1000000)=>contains_put 137 b (fun p=>!inn p.loc 0 (t.mem.words.length-1)) (t.mem.words.map iv) (t.mem.tags.map iv) (t.bufs.map encBuf) t.depth hb (fun p _=>ts1_ok t p h.words)
 obtain ⟨hz1,hz2⟩:=allAt (l:=t.bufs) (p:=buOk t)
 have hsp:=h.puts
 have hbl:=h.bufs
 unfold tsRight
 rw [show (t.bufs.all fun b=>decide ((b.length:Int)≤t.depth)&&b.all fun p=>inn p.loc 0 (t.mem.words.length-1))=t.bufs.all (buOk t) from rfl]
 unfold encTso tCells ivs
 unfold encMem mCells ivs at h1
 simp only [any_not] at h3
 refine jC Tryz.func87 Tryz.ntmps87 (fun w0 β0 ext hβ=>?_)
 repeat (first|refine jS ?_|refine jD ?_|refine jB ?_|refine jV h1 ?_)
 cases hm:mRight t.mem with
 | false =>
  repeat (first|refine jS ?_|refine jD ?_|refine jB ?_)
  exact jR
 | true =>
  repeat (first|refine jS ?_|refine jD ?_|refine jB ?_|refine jV h2 ?_)
  cases hs:szOk t.bufs.length t.depth with
  | false =>
   repeat (first|refine jS ?_|refine jD ?_|refine jB ?_)
   exact jR
  | true =>
   repeat (first|refine jS ?_|refine jD ?_|refine jB ?_)
   refine jloopI (fun k:Nat=>k≤t.bufs.length∧∀ q,q < k→buOk t (at' t.bufs (q:Int))=true) [1,19,20,21] (fun k=>[.ptr 0 0,.sl (t.bufs.map encBuf),.v (.int .i64 ((t.bufs.map encBuf).length:Int)),.v (.int .i64 (k:Int))])
    (fun _=>[.box 29 [.sl (t.mem.words.map iv),.sl (t.mem.tags.map iv),iv t.depth,.sl (t.bufs.map encBuf)]]) (fun k=>t.bufs.length-k) 0 ⟨Nat.zero_le _,fun q h=>absurd h (by omega)⟩ rfl rfl (fun k hk=>?_)
   obtain ⟨hk,hok⟩:=hk
   repeat (first|refine jS ?_|refine jD ?_|refine jB ?_)
   refine jc rfl rfl rfl (fun h=>?_) (fun h=>?_)
   ·have h:=of_decide_eq_true h
    rw [List.length_map] at h
    have hk2:k < t.bufs.length:=by omega
    have hidx:IntKind.i64.wrap ((k:Int)+1)=((k+1:Nat):Int):=idx_next hk2 (by omega)
    have h3:=h3 (at' t.bufs (k:Int)) (hsp _ (at_mem hk2))
    have hno:=hz2 k hk2
    have hnx:buOk t (at' t.bufs (k:Int))=true→∀ q,q < k+1→buOk t (at' t.bufs (q:Int))=true:=fun hb q hq=>by
     by_cases e:q=k
     ·subst e;exact hb
     ·exact hok q (by omega)
    have f1:decide ((((at' t.bufs (k:Int)).map encPut).length:Int) > t.depth) = !decide (((at' t.bufs (k:Int)).length:Int)≤t.depth):=by rw [List.length_map];exact dec_not (by omega)
    repeat (first|refine jS ?_|refine jD ?_|refine jB ?_|refine jI (Int.natCast_nonneg k) h ?_)
    have hbd:buOk t (at' t.bufs (k:Int))=(decide (((at' t.bufs (k:Int)).length:Int)≤t.depth)&&(at' t.bufs (k:Int)).all fun p=>inn p.loc 0 (t.mem.words.length-1)):=rfl
    rw [hbd] at hno hnx
    generalize (at' t.bufs (k:Int)).all (fun p=>inn p.loc 0 (t.mem.words.length-1))=a1 at *
    generalize decide (((at' t.bufs (k:Int)).length:Int)≤t.depth)=a2 at *
    rw [f1]
    cases a2 with
    | false =>
     repeat (first|refine jS ?_|refine jD ?_|refine jB ?_)
     rw [hno rfl]
     exact jR
    | true =>
     repeat (first|refine jS ?_|refine jD ?_|refine jB ?_)
     refine jBb [0] h3 ?_
     cases a1 with
     | false =>
      repeat (first|refine jS ?_|refine jD ?_|refine jB ?_)
      rw [hno rfl]
      exact jR
     | true =>
      repeat (first|refine jS ?_|refine jD ?_|refine jB ?_)
      refine jnextI (k+1) ⟨by omega,hnx rfl⟩ ?_ rfl (by omega)
      show some _=some _
      rw [hidx]
   ·have h:=of_decide_eq_false h
    rw [List.length_map] at h
    rw [hz1 fun q hq=>hok q (by omega)]
    repeat (first|refine jS ?_|refine jD ?_|refine jB ?_)
    exact jR
structure WdSz (w:Wd):Prop where
 code:w.code.length≤1000000
 tso:TsSz w.tso
 thr:w.thr.length≤1000000
 each:∀ t∈w.thr,t.frames.length≤1000000∧t.left.length≤1000000
def wdH (w:Wd):List AObj:=[.box 33 [.sl (w.code.map encIns),.sl (w.tso.mem.words.map iv),.sl (w.tso.mem.tags.map iv),iv w.tso.depth,.sl (w.tso.bufs.map encBuf),.sl (w.thr.map encThr),.sl (w.evs.map encEvt)]]
def tOk (n:Nat) (t:Thr):Bool:=thRight t&&(decide (t.left.length=0)||decide (t.left.length=n))
theorem wr1_ok (w:Wd) (t:Thr) (h:t.frames.length≤1000000∧t.left.length≤1000000):ACalls Tryz.prog 89 [encThr t,.ptr 0 0] (wdH w) (one (bv (!tOk w.thr.length t)) (wdH w)):=by
 have h1:=thr_right t h.1 h.2
 have e1:decide (((t.left.map iv).length:Int) > 0) = !decide (t.left.length=0):=by rw [List.length_map];exact dec_not (by omega)
 have e2:(((t.left.map iv).length:Int) != ((w.thr.map encThr).length:Int)) = !decide (t.left.length=w.thr.length):=by rw [List.length_map,List.length_map,int_bne];congr 1;exact decide_eq_decide.2 (by omega)
 unfold tOk wdH
 unfold encThr thCells at *
 generalize thRight t=a at *
 generalize decide (t.left.length=0)=b at *
 generalize decide (t.left.length=w.thr.length)=c at *
 refine jC Tryz.func89 Tryz.ntmps89 (fun w0 β0 ext hβ=>?_)
 repeat (first|refine jS ?_|refine jD ?_|refine jB ?_|refine jV h1 ?_)
 cases a with
 | false =>
  repeat (first|refine jS ?_|refine jD ?_|refine jB ?_)
  exact jR
 | true =>
  repeat (first|refine jS ?_|refine jD ?_|refine jB ?_)
  rw [e1]
  cases b with
  | true =>
   repeat (first|refine jS ?_|refine jD ?_|refine jB ?_)
   exact jR
  | false =>
   repeat (first|refine jS ?_|refine jD ?_|refine jB ?_)
   rw [e2]
   exact jR
theorem wd_right (w:Wd) (h:WdSz w):ACalls Tryz.prog 46 [encWd w] [] (one (bv (wRight w)) []):=by
 have h1:=right_ok w.code h.code
 have h2:=tso_right w.tso h.tso
 have h3:=contains_thr 89 w.thr (fun t=>!tOk w.thr.length t) (w.code.map encIns) (w.tso.mem.words.map iv) (w.tso.mem.tags.map iv) (w.tso.bufs.map encBuf) (w.thr.map encThr) (w.evs.map encEvt) w.tso.depth h.thr (fun t ht=>wr1_ok w t (h.each t ht))
 rw [any_not] at h3
 have e2:(((w.thr.map encThr).length:Int) != ((w.tso.bufs.map encBuf).length:Int)) = !decide (w.thr.length=w.tso.bufs.length):=by rw [List.length_map,List.length_map,int_bne];congr 1;exact decide_eq_decide.2 (by omega)
 unfold wRight
 rw [show (w.thr.all fun t=>thRight t&&(decide (t.left.length=0)||decide (t.left.length=w.thr.length)))=w.thr.all (tOk w.thr.length) from rfl]
 unfold encIs at h1
 unfold encTso tCells ivs at h2
 unfold encWd wCells ivs
 generalize rightC w.code=a1 at *
 generalize tsRight w.tso=a2 at *
 generalize decide (w.thr.length=w.tso.bufs.length)=a3 at *
 generalize w.thr.all (tOk w.thr.length)=a4 at *
 refine jC Tryz.func46 Tryz.ntmps46 (fun w0 β0 ext hβ=>?_)
 repeat (first|refine jS ?_|refine jD ?_|refine jB ?_|refine jV h1 ?_)
 cases a1 with
 | false =>
  repeat (first|refine jS ?_|refine jD ?_|refine jB ?_)
  exact jR
 | true =>
  repeat (first|refine jS ?_|refine jD ?_|refine jB ?_|refine jV h2 ?_)
  cases a2 with
  | false =>
   repeat (first|refine jS ?_|refine jD ?_|refine jB ?_)
   exact jR
  | true =>
   repeat (first|refine jS ?_|refine jD ?_|refine jB ?_)
   rw [e2]
   cases a3 with
   | false =>
    repeat (first|refine jS ?_|refine jD ?_|refine jB ?_)
    exact jR
   | true =>
    repeat (first|refine jS ?_|refine jD ?_|refine jB ?_)
    refine jBb [0] h3 ?_
    cases a4
    all_goals (
     repeat (first|refine jS ?_|refine jD ?_|refine jB ?_)
    )
    all_goals exact jR
end Go.AL
end
section
set_option maxRecDepth 100000
namespace Go.AL
open Go Go.Proofs
attribute [local irreducible] J
theorem newest_some {b:List Wput} {a:Int} {q:Nat} (hq:q < b.length) (h:(at' b (q:Int)).loc=a) (hn:∀ p,q < p→p < b.length→(at' b (p:Int)).loc≠a):newest b a=some (at' b (q:Int)).val:=by
 unfold newest
 rw [at_nat b q hq] at *
 rw [List.find?_eq_some_iff_append.2 ⟨?_,(b.drop (q+1)).reverse,(b.take q).reverse,?_,?_⟩]
 ·rfl
 ·simpa using h
 ·have e:b=b.take q++b[q]::b.drop (q+1):=by rw [←List.drop_eq_getElem_cons hq,List.take_append_drop]
  conv=>lhs;rw [e]
  simp
 ·intro x hx
  rw [List.mem_reverse] at hx
  obtain ⟨i,hi,rfl⟩:=List.getElem_of_mem hx
  rw [List.length_drop] at hi
  have:=hn (q+1+i) (by omega) (by omega)
  rw [at_nat b _ (by omega)] at this
  simpa [List.getElem_drop] using this
theorem newest_none {b:List Wput} {a:Int} (hn:∀ p,p < b.length→(at' b (p:Int)).loc≠a):newest b a=none:=by
 unfold newest
 rw [List.find?_eq_none.2 fun x hx=>?_]
 ·rfl
 rw [List.mem_reverse] at hx
 obtain ⟨i,hi,rfl⟩:=List.getElem_of_mem hx
 have:=hn i hi
 rw [at_nat b _ hi] at this
 simpa using this
theorem backward_ok (b:List Wput):ACalls Tryz.prog 288 [.sl (b.map encPut)] [] (one (.fn (.func 299) [] [.ptr 0 0]) [.box 159 [.sl (b.map encPut)]]):=by
 refine jC Tryz.func288 Tryz.ntmps288 (fun w0 β0 ext hβ=>?_)
 repeat (first|refine jS ?_|refine jD ?_|refine jB ?_)
 exact jret [0] true rfl rfl rfl ⟨rfl,rfl⟩
theorem backward1_ok (l jb:Nat) (b:List Wput) (hb:b.length≤1000000) (A:Nat→List AObj) (ok:Nat→Prop) (h0:ok b.length) (Z:List AObj→Prop) (hA:∀ k,k≤b.length→(A k)[jb]? = some (.box 159 [.sl (b.map encPut)]))
  (hY:∀ (k:Nat) (hk:k < b.length),ok (k+1)→AYield Tryz.prog l [iv (k:Int),encPut (at' b (k:Int))] (A (k+1)) (fun r H'=>(r = .ret (bv true)∧H'=A k∧ok k)∨(r = .ret (bv false)∧Z H'))) :
  ACalls Tryz.prog 299 [.fn (.yield l) [] [],.ptr jb 0] (A b.length) (fun r H'=>r = .ret (.tup [])∧((H'=A 0∧ok 0)∨Z H')):=by
 have hlen:=hA b.length (Nat.le_refl _)
 have hw:IntKind.i64.wrap (((b.map encPut).length:Int)-1)=(b.length:Int)-1:=by rw [List.length_map,wrap_id]<;>omega
 refine jcalls0 Tryz.func299 rfl (by kernel_rfl) Tryz.ntmps299 rfl rfl (fun w0 β0 ext hβ=>?_)
 repeat (first|refine jS ?_|refine jD ?_|refine jB ?_|refine jo rfl rfl (load_dsem (r:=ty159) rfl hlen rfl rfl) rfl rfl ?_)
 rw [hw]
 refine jloopI (fun k=>k≤b.length∧ok k) [0,1,3] (fun k=>[.fn (.yield l) [] [],.ptr jb 0,.v (.int .i64 ((k:Int)-1))]) A (fun k=>k) b.length ⟨Nat.le_refl _,h0⟩ rfl rfl (fun k hk=>?_)
 obtain ⟨hk,hok⟩:=hk
 have hbx:=hA k hk
 match k with
 | 0 =>
  repeat (first|refine jS ?_|refine jD ?_|refine jB ?_|refine jo rfl rfl (load_dsem (r:=ty159) rfl hbx rfl rfl) rfl rfl ?_)
  refine jend0 rfl ⟨rfl,.inl ⟨rfl,hok⟩⟩
 | k+1 =>
  have hk1:(((k+1:Nat):Int)-1)=(k:Int):=by omega
  have hge:decide ((k:Int)≥0)=true:=decide_eq_true (by omega)
  have hw2:IntKind.i64.wrap ((k:Int)-1)=(k:Int)-1:=by rw [wrap_id]<;>omega
  have hy:=hY k (by omega) hok
  rw [hk1]
  unfold iv at hy
  repeat (first|refine jS ?_|refine jD ?_|refine jB ?_)
  rw [hge]
  repeat (first|refine jS ?_|refine jD ?_|refine jB ?_|refine jo rfl rfl (load_dsem (r:=ty159) rfl hbx rfl rfl) rfl rfl ?_|refine jo rfl rfl (index_at rfl rfl rfl rfl rfl rfl rfl rfl (Int.natCast_nonneg k) (by omega)) rfl rfl ?_)
  refine jy hy rfl rfl rfl rfl (fun r' H' hres=>?_)
  rcases hres with ⟨rfl,rfl,hok2⟩|⟨rfl,hz⟩
  ·refine ⟨_,rfl,?_⟩
   repeat (first|refine jS ?_|refine jD ?_|refine jB ?_)
   rw [hw2]
   exact jnextI k ⟨by omega,hok2⟩ rfl rfl (by omega)
  ·refine ⟨_,rfl,?_⟩
   repeat (first|refine jS ?_|refine jD ?_|refine jB ?_)
   exact jret0 rfl ⟨rfl,.inr hz⟩
theorem newest_ok (b:List Wput) (a:Int) (hb:b.length≤1000000):ACalls Tryz.prog 269 [.sl (b.map encPut),iv a] [] (one (.tup [iv ((newest b a).getD 0),bv (newest b a).isSome]) []):=by
 have hbk:=backward_ok b
 refine jC Tryz.func269 Tryz.ntmps269 (fun w0 β0 ext hβ=>?_)
 repeat (first|refine jS ?_|refine jD ?_|refine jB ?_)
 refine jBb [] hbk ?_
 repeat (first|refine jS ?_|refine jD ?_|refine jB ?_)
 refine jrange [3,4,5] rfl rfl rfl (fun l c c1 c2 c3 c4 c5=>?_)
 have hc:=backward1_ok l 3 b hb (fun k=>[.box 3 [iv a],.box 3 [iv 0],.box 4 [bv false],.box 159 [.sl (b.map encPut)],.loop l .ready none c [.ptr 0 0,.ptr 1 0,.ptr 2 0]])
  (fun k=>∀ p,k≤p→p < b.length→(at' b (p:Int)).loc≠a) (fun p h1 h2=>absurd h2 (by omega))
  (fun H'=>∃ v,newest b a=some v∧H'=[.box 3 [iv a],.box 3 [iv v],.box 4 [bv true],.box 159 [.sl (b.map encPut)],.loop l .done (some .ret) c [.ptr 0 0,.ptr 1 0,.ptr 2 0]]) (fun k _=>rfl) (fun k hk hok=>?_)
 ·refine ⟨_,hc,fun r H' hres=>?_⟩
  obtain ⟨rfl,⟨rfl,hn⟩|⟨v,hv,rfl⟩⟩:=hres
  ·refine ⟨_,.ready,none,_,.normal,rfl,rfl,by decide,rfl,?_⟩
   rw [newest_none fun p hp=>hn p (Nat.zero_le _) hp]
   repeat (first|refine jS ?_|refine jD ?_|refine jB ?_)
   exact jR
  ·refine ⟨_,.done,some .ret,_,.ret,rfl,rfl,by decide,rfl,?_⟩
   rw [hv]
   repeat (first|refine jS ?_|refine jD ?_|refine jB ?_)
   exact jR
 ·refine jround (ts:=[3,4,5]) c1 c2 c3 c4 c5 (j:=4) rfl rfl rfl (fun w1 β1 ext1 hβ1=>?_)
  have hx:(at' b (k:Int)).loc=a→newest b a=some (at' b (k:Int)).val:=fun h=>newest_some hk h (fun p h1 h2=>hok p (by omega) h2)
  have hy:(at' b (k:Int)).loc≠a→∀ p,k≤p→p < b.length→(at' b (p:Int)).loc≠a:=fun h p h1 h2=>by
   by_cases e:p=k
   ·subst e;exact h
   ·exact hok p (by omega) h2
  generalize at' b (k:Int)=x at *
  rw [show encPut x = .agg [iv x.loc,iv x.val] from rfl]
  have hd:(x.loc == a)=decide (x.loc=a):=rfl
  repeat (first|refine jS ?_|refine jD ?_|refine jB ?_)
  refine jlp ⟨rfl,?_⟩
  repeat (first|refine jS ?_|refine jD ?_|refine jB ?_)
  rw [hd]
  cases he:decide (x.loc=a) with
  | true =>
   repeat (first|refine jS ?_|refine jD ?_|refine jB ?_)
   exact jrend (some .ret) rfl rfl rfl rfl (.inr ⟨rfl,_,hx (of_decide_eq_true he),rfl⟩)
  | false =>
   repeat (first|refine jS ?_|refine jD ?_|refine jB ?_)
   exact jrend none rfl rfl rfl rfl (.inl ⟨rfl,rfl,hy (of_decide_eq_false he)⟩)
theorem pop_ok (p:Wput) (r:List Wput) (hr:r.length≤900):ACalls Tryz.prog 148 [.sl ((p::r).map encPut)] [] (one (.tup [encPut p,.sl (r.map encPut),iv 0]) []):=by
 have hc:=clone_put_v r (by omega)
 have hl:((((p::r).map encPut).length:Int) == 0)=false:=by rw [List.length_map,int_beq];exact decide_eq_false (by simp;omega)
 refine jC Tryz.func148 Tryz.ntmps148 (fun w0 β0 ext hβ=>?_)
 repeat (first|refine jS ?_|refine jD ?_|refine jB ?_)
 rw [hl]
 have h0:(0:Int) < (p::r).length:=by simp
 have ha:at' (p::r) 0=p:=rfl
 have hdr:((p::r).drop 1).take ((p::r).length-1)=r:=by simp
 repeat (first|refine jS ?_|refine jD ?_|refine jB ?_|refine jI (l:=p::r) (Int.le_refl 0) h0 ?_)
 rw [ha]
 repeat (first|refine jS ?_|refine jD ?_|refine jB ?_)
 refine jo rfl rfl (cut_enc (l:=p::r) 1 (p::r).length rfl rfl ⟨_,rfl⟩ (by rw [List.length_map]) rfl rfl rfl (fun x=>⟨rfl,rfl⟩) (by simp) (Nat.le_refl _)) rfl rfl ?_
 rw [hdr]
 repeat (first|refine jS ?_|refine jD ?_|refine jB ?_|refine jV hc ?_)
 exact jR
theorem pop_none:ACalls Tryz.prog 148 [.sl []] [] (one (.tup [encPut ⟨0,0⟩,.sl [],iv 8]) []):=by
 refine jC Tryz.func148 Tryz.ntmps148 (fun w0 β0 ext hβ=>?_)
 repeat (first|refine jS ?_|refine jD ?_|refine jB ?_)
 exact jR
theorem push_ok (b:List Wput) (d:Int) (p:Wput) (h0:0≤d) (h8:d≤8) (hb:(b.length:Int)≤d) :
  ACalls Tryz.prog 270 [.sl (b.map encPut),iv d,encPut p] [] (one (.tup [.sl ((cond (decide ((b.length:Int)=d)) [] (b++[p])).map encPut),iv (cond (decide ((b.length:Int)=d)) 7 0)]) []):=by
 have e1:decide (d < 0)=false:=decide_eq_false (by omega)
 have e2:decide (d > 8)=false:=decide_eq_false (by omega)
 have e3:decide (((b.map encPut).length:Int) > d)=false:=decide_eq_false (by rw [List.length_map];omega)
 have e4:(((b.map encPut).length:Int) == d)=decide ((b.length:Int)=d):=by rw [List.length_map];rfl
 refine jC Tryz.func270 Tryz.ntmps270 (fun w0 β0 ext hβ=>?_)
 repeat (first|refine jS ?_|refine jD ?_|refine jB ?_)
 rw [e1]
 repeat (first|refine jS ?_|refine jD ?_|refine jB ?_)
 rw [e2]
 repeat (first|refine jS ?_|refine jD ?_|refine jB ?_)
 rw [e3]
 repeat (first|refine jS ?_|refine jD ?_|refine jB ?_)
 rw [e4]
 cases he:decide ((b.length:Int)=d) with
 | true =>
  repeat (first|refine jS ?_|refine jD ?_|refine jB ?_)
  exact jR
 | false =>
  repeat (first|refine jS ?_|refine jD ?_|refine jB ?_)
  refine jo rfl rfl (cut_full rfl rfl rfl rfl rfl rfl rfl rfl (elems_put b) (Int.le_refl 0) (Int.natCast_nonneg _) (Int.le_refl _)) rfl rfl ?_
  rw [show List.take (((b.map encPut).length:Int).toNat-(0:Int).toNat) (List.drop (0:Int).toNat (b.map encPut))=b.map encPut by rw [List.take_of_length_le (by simp)];simp]
  repeat (first|refine jS ?_|refine jD ?_|refine jB ?_)
  refine jo rfl rfl (append_new (ys:=[encPut p]) rfl rfl (.sl rfl) rfl rfl rfl rfl rfl (elems_put b) (elems_put [p]) rfl (by simp) (by simp [ty222];omega) (by simp;omega)) rfl rfl ?_
  rw [show b.map encPut++[encPut p]=(b++[p]).map encPut by rw [List.map_append];rfl]
  repeat (first|refine jS ?_|refine jD ?_|refine jB ?_)
  exact jR
end Go.AL
end
section
set_option maxRecDepth 100000
namespace Go.AL
open Go Go.Proofs
attribute [local irreducible] J
theorem szOk_iff {n:Nat} {d:Int}:szOk n d=true↔(1≤n∧n≤8)∧0≤d∧d≤8:=by
 unfold szOk
 simp only [Bool.and_eq_true,decide_eq_true_eq,inn_iff]
 omega
structure TsR (t:Tso):Prop where
 mem:mRight t.mem=true
 sz:(1≤t.bufs.length∧t.bufs.length≤8)∧0≤t.depth∧t.depth≤8
 put:∀ b∈t.bufs,(b.length:Int)≤t.depth∧∀ p∈b,0≤p.loc∧p.loc < t.mem.words.length
theorem tsRight_iff {t:Tso}:tsRight t=true↔TsR t:=by
 unfold tsRight
 simp only [Bool.and_eq_true,szOk_iff,List.all_eq_true,decide_eq_true_eq,inn_iff]
 constructor
 ·rintro ⟨a,b,c⟩
  exact ⟨a,b,fun x hx=>⟨(c x hx).1,fun p hp=>by have:=(c x hx).2 p hp;omega⟩⟩
 ·rintro ⟨a,b,c⟩
  exact ⟨a,b,fun x hx=>⟨(c x hx).1,fun p hp=>by have:=(c x hx).2 p hp;omega⟩⟩
theorem TsR.size {t:Tso} (h:TsR t):TsSz t:=by
 obtain ⟨r1,r2,r3,r4⟩:=(mRight_iff t.mem).1 h.mem
 have:=h.sz
 exact ⟨by omega,by omega,by omega,fun b hb=>by have:=(h.put b hb).1;omega⟩
theorem TsR.wl {t:Tso} (h:TsR t):t.mem.words.length≤160:=((mRight_iff t.mem).1 h.mem).2.1
def encMac (t:Tso):AVal:=.agg (tCells t)
theorem has_ok (t:Tso) (k:Int) (h:TsR t):ACalls Tryz.prog 268 [encMac t,iv k] [] (one (bv (inn k 0 (t.bufs.length-1))) []):=by
 have h1:=tso_right t h.size
 rw [tsRight_iff.2 h] at h1
 have e:inn k 0 (t.bufs.length-1)=(decide (k≥0)&&decide (k < ((t.bufs.map encBuf).length:Int))):=by
  unfold inn;rw [List.length_map,decide_eq_decide.2 (show k≤(t.bufs.length:Int)-1↔k < (t.bufs.length:Int) by omega)]
 rw [e]
 unfold encMac tCells ivs
 unfold encTso tCells ivs at h1
 refine jC Tryz.func268 Tryz.ntmps268 (fun w0 β0 ext hβ=>?_)
 repeat (first|refine jS ?_|refine jD ?_|refine jB ?_|refine jV h1 ?_)
 cases hk:decide (k≥0)
 all_goals (
  repeat (first|refine jS ?_|refine jD ?_|refine jB ?_)
 )
 all_goals exact jR
theorem has_yes (t:Tso) (k:Nat) (h:TsR t) (hk:k < t.bufs.length):ACalls Tryz.prog 268 [encMac t,iv (k:Int)] [] (one (bv true) []):=by
 have:=has_ok t k h
 rwa [inn_iff.2 ⟨by omega,by omega⟩] at this
theorem bufAt_at {t:Tso} {k:Nat}:bufAt t k=at' t.bufs (k:Int):=rfl
theorem wait_ok (t:Tso) (k:Nat) (b:List Wput) (hk:k < t.bufs.length) (hl:t.bufs.length≤8) :
  ACalls Tryz.prog 271 [.ptr 0 0,iv (k:Int),encBuf b] [.box 329 (tCells t)]
   (one (.tup []) [.box 329 (tCells ⟨t.mem,t.depth,t.bufs.set k b⟩)]):=by
 have hc:=clone_buf t.bufs (by intro e;rw [e] at hk;simp at hk) (by omega)
 unfold tCells ivs
 refine jC Tryz.func271 Tryz.ntmps271 (fun w0 β0 ext hβ=>?_)
 repeat (first|refine jS ?_|refine jD ?_|refine jB ?_)
 refine jBb [] hc ?_
 repeat (first|refine jS ?_|refine jD ?_|refine jB ?_)
 refine jo rfl rfl (index_own (xs:=t.bufs.map encBuf) (n:=(k:Int)) rfl rfl rfl rfl rfl rfl (by omega) (by simp;omega)) rfl rfl ?_
 refine jo rfl rfl (store_enc (enc:=encBuf) (l:=t.bufs) (l':=t.bufs.set k b) rfl rfl rfl (map_at (by omega)) rfl rfl rfl rfl rfl (Nat.le_of_ble_eq_true rfl) (.inr ⟨rfl,rfl⟩) (put_at (enc:=encBuf) rfl) rfl) rfl rfl ?_
 repeat (first|refine jS ?_|refine jD ?_|refine jB ?_)
 exact jend [] true rfl rfl rfl ⟨rfl,rfl⟩
theorem tnew_ok (m:Mem) (n d:Int) (hm:m.words.length≤1000000∧m.tags.length≤1000000) :
  ACalls Tryz.prog 128 [encMem m,iv n,iv d] [] (one (.tup [encTso (cond (mRight m&&(inn n 1 8&&inn d 0 8)) ⟨m,d,List.replicate n.toNat []⟩ tso0),iv (cond (mRight m) (cond (inn n 1 8&&inn d 0 8) 0 2) 1)]) []):=by
 have h1:=mem_right m hm.1 hm.2
 have h2:=sizes_ok n d
 unfold encTso tCells
 unfold encMem mCells ivs at *
 cases hr:mRight m with
 | false =>
  rw [hr] at h1
  refine jC Tryz.func128 Tryz.ntmps128 (fun w0 β0 ext hβ=>?_)
  repeat (first|refine jS ?_|refine jD ?_|refine jB ?_|refine jV h1 ?_)
  exact jR
 | true =>
  rw [hr] at h1
  cases hs:(inn n 1 8&&inn d 0 8) with
  | false =>
   rw [hs] at h2
   refine jC Tryz.func128 Tryz.ntmps128 (fun w0 β0 ext hβ=>?_)
   repeat (first|refine jS ?_|refine jD ?_|refine jB ?_|refine jV h1 ?_|refine jV h2 ?_)
   exact jR
  | true =>
   rw [hs] at h2
   rw [Bool.and_eq_true,inn_iff,inn_iff] at hs
   have hrep:(List.replicate n.toNat ([]:List Wput)).map encBuf=List.replicate n.toNat (.sl []):=by rw [List.map_replicate];rfl
   simp only [Bool.and_true,cond_true]
   rw [hrep]
   refine jC Tryz.func128 Tryz.ntmps128 (fun w0 β0 ext hβ=>?_)
   repeat (first|refine jS ?_|refine jD ?_|refine jB ?_|refine jV h1 ?_|refine jV h2 ?_)
   refine jo rfl rfl (make_ownA n.toNat (n:=n) nil_rel rfl rfl (by omega) rfl rfl rfl rfl rfl rfl rfl (by decide) (by omega) rfl rfl) rfl rfl ?_
   repeat (first|refine jS ?_|refine jD ?_|refine jB ?_)
   exact jR
theorem tload_ok (t:Tso) (k:Nat) (a:Int) (h:TsR t) (hk:k < t.bufs.length):ACalls Tryz.prog 230 [encTso t,iv (k:Int),iv a] [] (one (.tup [iv (tsLoad t k a).1,iv (tsLoad t k a).2]) []):=by
 have h1:=has_yes t k h hk
 have h2:=load_ok t.mem a h.mem
 have h3:=newest_ok (bufAt t k) a (by rw [bufAt_at];exact h.size.puts _ (at_mem hk))
 unfold tsLoad
 have hd:((mLoad t.mem a).2 != 0) = !decide ((mLoad t.mem a).2=0):=rfl
 rw [bufAt_at] at *
 unfold encMac tCells ivs at h1
 unfold encTso tCells ivs
 unfold encMem mCells ivs at h2
 generalize mLoad t.mem a=ld at *
 obtain ⟨v,e⟩:=ld
 simp only at *
 generalize hbb:at' t.bufs (k:Int)=bb at *
 cases he:decide (e=0) with
 | false =>
  rw [he] at hd
  refine jC Tryz.func230 Tryz.ntmps230 (fun w0 β0 ext hβ=>?_)
  repeat (first|refine jS ?_|refine jD ?_|refine jB ?_|refine jV h1 ?_|refine jV h2 ?_)
  rw [hd]
  repeat (first|refine jS ?_|refine jD ?_|refine jB ?_)
  exact jR
 | true =>
  rw [he] at hd
  have hk1:(k:Int) < t.bufs.length:=by omega
  refine jC Tryz.func230 Tryz.ntmps230 (fun w0 β0 ext hβ=>?_)
  repeat (first|refine jS ?_|refine jD ?_|refine jB ?_|refine jV h1 ?_|refine jV h2 ?_)
  rw [hd]
  repeat (first|refine jS ?_|refine jD ?_|refine jB ?_|refine jI (Int.natCast_nonneg k) hk1 ?_)
  rw [hbb]
  repeat (first|refine jS ?_|refine jD ?_|refine jB ?_|refine jV h3 ?_)
  cases newest bb a
  all_goals (
   repeat (first|refine jS ?_|refine jD ?_|refine jB ?_)
  )
  all_goals exact jR
theorem tstore_ok (t:Tso) (k:Nat) (a v:Int) (h:TsR t) (hk:k < t.bufs.length):ACalls Tryz.prog 231 [encTso t,iv (k:Int),iv a,iv v] [] (one (.tup [encTso (tsStore t k a v).1,iv (tsStore t k a v).2]) []):=by
 have h1:=has_yes t k h hk
 have h2:=store_ok t.mem a v h.mem
 have h3:=push_ok (bufAt t k) t.depth ⟨a,v⟩ h.sz.2.1 h.sz.2.2 (by rw [bufAt_at];exact (h.put _ (at_mem hk)).1)
 have h4:=fun b=>wait_ok t k b hk h.sz.1.2
 unfold tsStore
 have hd:((mStore t.mem a v).2 != 0) = !decide ((mStore t.mem a v).2=0):=rfl
 have hd2:(t.depth == 0)=decide (t.depth=0):=rfl
 rw [bufAt_at] at *
 unfold encMac at h1
 unfold encTso
 unfold tCells ivs at *
 unfold encMem mCells ivs at h2
 generalize mStore t.mem a v=ld at *
 obtain ⟨⟨ws,ts⟩,e⟩:=ld
 simp only at *
 generalize hbb:at' t.bufs (k:Int)=bb at *
 have hk1:(k:Int) < t.bufs.length:=by omega
 cases he:decide (e=0) with
 | false =>
  rw [he] at hd
  refine jC Tryz.func231 Tryz.ntmps231 (fun w0 β0 ext hβ=>?_)
  repeat (first|refine jS ?_|refine jD ?_|refine jB ?_|refine jV h1 ?_|refine jV h2 ?_)
  rw [hd]
  repeat (first|refine jS ?_|refine jD ?_|refine jB ?_)
  exact jR
 | true =>
  rw [he] at hd
  cases hz:decide (t.depth=0) with
  | true =>
   rw [hz] at hd2
   refine jC Tryz.func231 Tryz.ntmps231 (fun w0 β0 ext hβ=>?_)
   repeat (first|refine jS ?_|refine jD ?_|refine jB ?_|refine jV h1 ?_|refine jV h2 ?_)
   rw [hd]
   repeat (first|refine jS ?_|refine jD ?_|refine jB ?_)
   rw [hd2]
   repeat (first|refine jS ?_|refine jD ?_|refine jB ?_)
   exact jR
  | false =>
   rw [hz] at hd2
   cases hf:decide ((bb.length:Int)=t.depth) with
   | true =>
    rw [hf] at h3
    refine jC Tryz.func231 Tryz.ntmps231 (fun w0 β0 ext hβ=>?_)
    repeat (first|refine jS ?_|refine jD ?_|refine jB ?_|refine jV h1 ?_|refine jV h2 ?_)
    rw [hd]
    repeat (first|refine jS ?_|refine jD ?_|refine jB ?_)
    rw [hd2]
    repeat (first|refine jS ?_|refine jD ?_|refine jB ?_|refine jI (Int.natCast_nonneg k) hk1 ?_)
    rw [hbb]
    repeat (first|refine jS ?_|refine jD ?_|refine jB ?_|refine jV h3 ?_)
    exact jR
   | false =>
    rw [hf] at h3
    have h4:=h4 (bb++[⟨a,v⟩])
    simp only [cond_false] at h3 h4 ⊢
    refine jC Tryz.func231 Tryz.ntmps231 (fun w0 β0 ext hβ=>?_)
    repeat (first|refine jS ?_|refine jD ?_|refine jB ?_|refine jV h1 ?_|refine jV h2 ?_)
    rw [hd]
    repeat (first|refine jS ?_|refine jD ?_|refine jB ?_)
    rw [hd2]
    repeat (first|refine jS ?_|refine jD ?_|refine jB ?_|refine jI (Int.natCast_nonneg k) hk1 ?_)
    rw [hbb]
    repeat (first|refine jS ?_|refine jD ?_|refine jB ?_|refine jV h3 ?_)
    refine jBb [2] h4 ?_
    repeat (first|refine jS ?_|refine jD ?_|refine jB ?_)
    exact jR
theorem becomes_ok:ACalls Tryz.prog 272 [] [] (one (.agg [.fn (.func 289) [] [],.fn (.func 290) [] [],.fn (.func 291) [] []]) []):=by
 refine jC Tryz.func272 Tryz.ntmps272 (fun w0 β0 ext hβ=>?_)
 repeat (first|refine jS ?_|refine jD ?_|refine jB ?_)
 exact jR
theorem be1_ok (w a b:Int):ACalls Tryz.prog 289 [iv w,iv a,iv b] [] (one (iv (become 0 w a b)) []):=by
 have hd:(w == a)=decide (w=a):=rfl
 unfold become
 cases h:decide (w=a)
 all_goals (
  rw [h] at hd
  refine jC Tryz.func289 Tryz.ntmps289 (fun w0 β0 ext hβ=>?_)
  repeat (first|refine jS ?_|refine jD ?_|refine jB ?_)
  rw [hd]
  repeat (first|refine jS ?_|refine jD ?_|refine jB ?_)
 )
 all_goals exact jR
theorem be2_ok (w a b:Int):ACalls Tryz.prog 290 [iv w,iv a,iv b] [] (one (iv (become 1 w a b)) []):=by
 refine jC Tryz.func290 Tryz.ntmps290 (fun w0 β0 ext hβ=>?_)
 repeat (first|refine jS ?_|refine jD ?_|refine jB ?_)
 exact jR
theorem be3_ok (w a b:Int):ACalls Tryz.prog 291 [iv w,iv a,iv b] [] (one (iv (become 2 w a b)) []):=by
 refine jC Tryz.func291 Tryz.ntmps291 (fun w0 β0 ext hβ=>?_)
 repeat (first|refine jS ?_|refine jD ?_|refine jB ?_)
 exact jR
theorem locked_ok (t:Tso) (k:Nat) (kd a x y:Int) (h:TsR t) (hk:k < t.bufs.length) (hkd:kd=0∨kd=1∨kd=2) :
  ACalls Tryz.prog 232 [encTso t,iv (k:Int),iv kd,iv a,iv x,iv y] [] (one (.tup [encTso (tsLocked t k kd a x y).1,iv (tsLocked t k kd a x y).2.1,iv (tsLocked t k kd a x y).2.2]) []):=by
 have h1:=has_yes t k h hk
 have h2:=load_ok t.mem a h.mem
 have h3:=fun v=>store_ok t.mem a v h.mem
 have h4:=becomes_ok
 have h5:=fun v=>be1_ok v x y
 have h6:=fun v=>be2_ok v x y
 have h7:=fun v=>be3_ok v x y
 unfold tsLocked
 have hd:((mLoad t.mem a).2 != 0) = !decide ((mLoad t.mem a).2=0):=rfl
 rw [bufAt_at] at *
 unfold encMac at h1
 unfold encTso
 unfold tCells ivs at *
 unfold encMem mCells ivs at h2
 generalize mLoad t.mem a=ld at *
 obtain ⟨v,e⟩:=ld
 simp only at *
 have h3:=h3 (become kd v x y)
 generalize mStore t.mem a (become kd v x y)=st at *
 obtain ⟨⟨ws,ts⟩,e2⟩:=st
 unfold encMem mCells ivs at h3
 simp only at *
 generalize hbb:at' t.bufs (k:Int)=bb at *
 have hk1:(k:Int) < t.bufs.length:=by omega
 have hl:decide (((bb.map encPut).length:Int) > 0) = !decide (bb.length=0):=by rw [List.length_map];exact dec_not (by omega)
 cases hz:decide (bb.length=0) with
 | false =>
  rw [hz] at hl
  rcases hkd with rfl|rfl|rfl
  all_goals (
   refine jC Tryz.func232 Tryz.ntmps232 (fun w0 β0 ext hβ=>?_)
   repeat (first|refine jS ?_|refine jD ?_|refine jB ?_|refine jV h4 ?_|refine jV h1 ?_|refine jI (Int.natCast_nonneg k) hk1 ?_)
   rw [hbb]
   repeat (first|refine jS ?_|refine jD ?_|refine jB ?_)
   rw [hl]
   repeat (first|refine jS ?_|refine jD ?_|refine jB ?_)
  )
  all_goals exact jR
 | true =>
  rw [hz] at hl
  cases he:decide (e=0) with
  | false =>
   rw [he] at hd
   rcases hkd with rfl|rfl|rfl
   all_goals (
    refine jC Tryz.func232 Tryz.ntmps232 (fun w0 β0 ext hβ=>?_)
    repeat (first|refine jS ?_|refine jD ?_|refine jB ?_|refine jV h4 ?_|refine jV h1 ?_|refine jI (Int.natCast_nonneg k) hk1 ?_)
    rw [hbb]
    repeat (first|refine jS ?_|refine jD ?_|refine jB ?_)
    rw [hl]
    repeat (first|refine jS ?_|refine jD ?_|refine jB ?_|refine jV h2 ?_)
    rw [hd]
    repeat (first|refine jS ?_|refine jD ?_|refine jB ?_)
   )
   all_goals exact jR
  | true =>
   rw [he] at hd
   rcases hkd with rfl|rfl|rfl
   all_goals (
    refine jC Tryz.func232 Tryz.ntmps232 (fun w0 β0 ext hβ=>?_)
    repeat (first|refine jS ?_|refine jD ?_|refine jB ?_|refine jV h4 ?_|refine jV h1 ?_|refine jI (Int.natCast_nonneg k) hk1 ?_)
    rw [hbb]
    repeat (first|refine jS ?_|refine jD ?_|refine jB ?_)
    rw [hl]
    repeat (first|refine jS ?_|refine jD ?_|refine jB ?_|refine jV h2 ?_)
    rw [hd]
    repeat (first|refine jS ?_|refine jD ?_|refine jB ?_|refine jo rfl rfl (index_arr rfl rfl rfl rfl rfl (by omega) (by omega)) rfl rfl ?_|refine jV h3 ?_|refine jV (h5 v) ?_|refine jV (h6 v) ?_|refine jV (h7 v) ?_)
   )
   all_goals exact jR
end Go.AL
end
section
set_option maxRecDepth 100000
namespace Go.AL
open Go Go.Proofs
attribute [local irreducible] J
theorem thRight_pc {t:Thr} (h:thRight t=true):0≤t.pc∧t.pc≤1000:=by
 unfold thRight at h
 rw [Bool.and_eq_true,inn_iff] at h
 exact h.1
theorem call_ok (t:Thr) (to:Int) (hf:t.frames.length≤1000) (hl:t.left.length≤1000000):ACalls Tryz.prog 228 [encThr t,iv to] [] (one (.tup [resThr (frCall t to),iv (frCall t to).2]) []):=by
 have h1:=thr_right t (by omega) hl
 have h2:=place_ok to
 have h3:=clip_frm t.frames
 have hpc:=fun h=>thRight_pc (t:=t) h
 unfold frCall
 have e1:(t.pc == 1000)=decide (t.pc=1000):=rfl
 have e2:(((t.frames.map encFrm).length:Int) == 6)=decide (t.frames.length=6):=by rw [List.length_map,int_beq];exact decide_eq_decide.2 (by omega)
 have hfr:∀ f,t.frames.map encFrm++[encFrm f]=(t.frames++[f]).map encFrm:=fun f=>by rw [List.map_append];rfl
 unfold encThr thCells at *
 generalize thRight t=b1 at *
 generalize inn to 0 1000=b2 at *
 cases b1 with
 | false =>
  refine jC Tryz.func228 Tryz.ntmps228 (fun w0 β0 ext hβ=>?_)
  repeat (first|refine jS ?_|refine jD ?_|refine jB ?_|refine jV h1 ?_)
  exact jR
 | true =>
  have hpc:=hpc rfl
  have hw:IntKind.i64.wrap (t.pc+1)=t.pc+1:=by rw [wrap_id]<;>omega
  cases he:decide (t.pc=1000) with
  | true =>
   rw [he] at e1
   refine jC Tryz.func228 Tryz.ntmps228 (fun w0 β0 ext hβ=>?_)
   repeat (first|refine jS ?_|refine jD ?_|refine jB ?_|refine jV h1 ?_)
   rw [e1]
   repeat (first|refine jS ?_|refine jD ?_|refine jB ?_)
   exact jR
  | false =>
   rw [he] at e1
   cases b2 with
   | false =>
    refine jC Tryz.func228 Tryz.ntmps228 (fun w0 β0 ext hβ=>?_)
    repeat (first|refine jS ?_|refine jD ?_|refine jB ?_|refine jV h1 ?_)
    rw [e1]
    repeat (first|refine jS ?_|refine jD ?_|refine jB ?_|refine jV h2 ?_)
    exact jR
   | true =>
    cases h6:decide (t.frames.length=6) with
    | true =>
     rw [h6] at e2
     refine jC Tryz.func228 Tryz.ntmps228 (fun w0 β0 ext hβ=>?_)
     repeat (first|refine jS ?_|refine jD ?_|refine jB ?_|refine jV h1 ?_)
     rw [e1]
     repeat (first|refine jS ?_|refine jD ?_|refine jB ?_|refine jV h2 ?_)
     rw [e2]
     repeat (first|refine jS ?_|refine jD ?_|refine jB ?_)
     exact jR
    | false =>
     rw [h6] at e2
     have h3:=h3
     refine jC Tryz.func228 Tryz.ntmps228 (fun w0 β0 ext hβ=>?_)
     repeat (first|refine jS ?_|refine jD ?_|refine jB ?_|refine jV h1 ?_)
     rw [e1]
     repeat (first|refine jS ?_|refine jD ?_|refine jB ?_|refine jV h2 ?_)
     rw [e2]
     repeat (first|refine jS ?_|refine jD ?_|refine jB ?_)
     rw [hw]
     repeat (first|refine jS ?_|refine jD ?_|refine jB ?_|refine jo rfl rfl (slice_box 0 4 rfl rfl rfl rfl rfl rfl (by decide) (by decide) (by decide)) rfl rfl ?_|refine jo rfl rfl (slice_box 4 8 rfl ⟨_,rfl⟩ rfl rfl rfl rfl (by decide) (by decide) (by decide)) rfl rfl ?_)
     refine jo rfl rfl (copy_bs rfl rfl rfl rfl rfl rfl rfl rfl (Nat.le_of_ble_eq_true rfl) (Nat.le_of_ble_eq_true rfl) rfl) rfl rfl ?_
     repeat (first|refine jS ?_|refine jD ?_|refine jB ?_|refine jV h3 ?_)
     refine jo rfl rfl (append_new (ys:=[encFrm ⟨t.pc+1,[g0 t.regs 4,g0 t.regs 5,g0 t.regs 6,g0 t.regs 7]⟩]) rfl rfl (.sl rfl) rfl rfl rfl rfl rfl (elems_frm t.frames) (elems_frm [⟨t.pc+1,[g0 t.regs 4,g0 t.regs 5,g0 t.regs 6,g0 t.regs 7]⟩]) rfl (by simp) (by simp [ty174];omega) (by simp;omega)) rfl rfl ?_
     rw [hfr]
     repeat (first|refine jS ?_|refine jD ?_|refine jB ?_)
     exact jR
theorem last_at {l:List Frm} (h:l≠[]):l.getLast? = some (at' l ((l.length-1:Nat):Int)):=by
 have hl:0 < l.length:=List.length_pos_iff.2 h
 rw [at_nat l _ (by omega),List.getLast?_eq_getElem?,List.getElem?_eq_getElem (by omega)]
theorem back_ok (t:Thr) (hf:t.frames.length≤1000) (hl:t.left.length≤1000000):ACalls Tryz.prog 229 [encThr t] [] (one (.tup [resThr (frBack t),iv (frBack t).2]) []):=by
 have h1:=thr_right t (by omega) hl
 unfold frBack
 have e2:(((t.frames.map encFrm).length:Int) == 0)=decide (t.frames=[]):=by rw [List.length_map,int_beq];exact decide_eq_decide.2 (by rw [←List.length_eq_zero_iff];omega)
 unfold encThr thCells at *
 generalize thRight t=b1 at *
 cases b1 with
 | false =>
  refine jC Tryz.func229 Tryz.ntmps229 (fun w0 β0 ext hβ=>?_)
  repeat (first|refine jS ?_|refine jD ?_|refine jB ?_|refine jV h1 ?_)
  exact jR
 | true =>
  cases he:decide (t.frames=[]) with
  | true =>
   rw [he] at e2
   have hg:t.frames.getLast? = none:=by rw [of_decide_eq_true he];rfl
   rw [hg]
   refine jC Tryz.func229 Tryz.ntmps229 (fun w0 β0 ext hβ=>?_)
   repeat (first|refine jS ?_|refine jD ?_|refine jB ?_|refine jV h1 ?_)
   rw [e2]
   repeat (first|refine jS ?_|refine jD ?_|refine jB ?_)
   exact jR
  | false =>
   rw [he] at e2
   have hne:=of_decide_eq_false he
   have hpos:0 < t.frames.length:=List.length_pos_iff.2 hne
   rw [last_at hne]
   have hw:IntKind.i64.wrap (((t.frames.map encFrm).length:Int)-1)=((t.frames.length-1:Nat):Int):=by rw [List.length_map,wrap_id]<;>omega
   have hlt:((t.frames.length-1:Nat):Int) < t.frames.length:=by omega
   have hc:=clone_frm_v t.frames.dropLast (by rw [List.length_dropLast];omega)
   have hd:(t.frames.drop 0).take (t.frames.length-1-0)=t.frames.dropLast:=by rw [List.dropLast_eq_take];rfl
   generalize hx:at' t.frames ((t.frames.length-1:Nat):Int)=f at *
   refine jC Tryz.func229 Tryz.ntmps229 (fun w0 β0 ext hβ=>?_)
   repeat (first|refine jS ?_|refine jD ?_|refine jB ?_|refine jV h1 ?_)
   rw [e2]
   repeat (first|refine jS ?_|refine jD ?_|refine jB ?_)
   rw [hw]
   repeat (first|refine jS ?_|refine jD ?_|refine jB ?_|refine jI (Int.natCast_nonneg _) hlt ?_)
   rw [hx]
   repeat (first|refine jS ?_|refine jD ?_|refine jB ?_)
   refine jo rfl rfl (cut_enc (enc:=encFrm) (l:=t.frames) 0 (t.frames.length-1) rfl rfl rfl ⟨_,rfl⟩ rfl rfl rfl (fun x=>⟨rfl,rfl⟩) (by omega) (by omega)) rfl rfl ?_
   rw [hd]
   repeat (first|refine jS ?_|refine jD ?_|refine jB ?_|refine jV hc ?_|refine jo rfl rfl (slice_box 0 4 rfl rfl rfl rfl rfl rfl (by decide) (by decide) (by decide)) rfl rfl ?_|refine jo rfl rfl (slice_box 4 8 rfl ⟨_,rfl⟩ rfl rfl rfl rfl (by decide) (by decide) (by decide)) rfl rfl ?_)
   refine jo rfl rfl (copy_bs rfl rfl rfl rfl rfl rfl rfl rfl (Nat.le_of_ble_eq_true rfl) (Nat.le_of_ble_eq_true rfl) rfl) rfl rfl ?_
   repeat (first|refine jS ?_|refine jD ?_|refine jB ?_)
   exact jR
end Go.AL
end
section
set_option maxRecDepth 100000
namespace Go.AL
open Go Go.Proofs
attribute [local irreducible] J
theorem lin_ok (n a b:Int):ACalls Tryz.prog 226 [iv n,iv a,iv b] [] (one (bv (inn n a b)) []):=by
 unfold inn
 refine jC Tryz.func226 Tryz.ntmps226 (fun w0 β0 ext hβ=>?_)
 repeat (first|refine jS ?_|refine jD ?_|refine jB ?_)
 cases h:decide (n≥a)
 all_goals (
  repeat (first|refine jS ?_|refine jD ?_|refine jB ?_)
 )
 all_goals exact jR
theorem ready_ok (t:Thr) (s:Int) (hf:t.frames.length≤1000000) (hl:t.left.length≤1000000):ACalls Tryz.prog 224 [encThr t,iv s] [] (one (iv (loReady t s)) []):=by
 have h1:=thr_right t hf hl
 have h2:=lin_ok s 0 7
 have e1:(t.state != 0) = !decide (t.state=0):=rfl
 have e2:decide (((t.left.map iv).length:Int) > 0)=decide (0 < t.left.length):=by rw [List.length_map];exact decide_eq_decide.2 (by omega)
 unfold loReady
 unfold encThr thCells at *
 generalize thRight t=b1 at *
 generalize inn s 0 7=b2 at *
 generalize decide (t.state=0)=b3 at *
 generalize decide (0 < t.left.length)=b4 at *
 cases b1 with
 | false =>
  refine jC Tryz.func224 Tryz.ntmps224 (fun w0 β0 ext hβ=>?_)
  repeat (first|refine jS ?_|refine jD ?_|refine jB ?_|refine jV h1 ?_)
  exact jR
 | true =>
  cases b2 with
  | false =>
   refine jC Tryz.func224 Tryz.ntmps224 (fun w0 β0 ext hβ=>?_)
   repeat (first|refine jS ?_|refine jD ?_|refine jB ?_|refine jV h1 ?_|refine jV h2 ?_)
   exact jR
  | true =>
   cases b3 with
   | false =>
    refine jC Tryz.func224 Tryz.ntmps224 (fun w0 β0 ext hβ=>?_)
    repeat (first|refine jS ?_|refine jD ?_|refine jB ?_|refine jV h1 ?_|refine jV h2 ?_)
    rw [e1]
    repeat (first|refine jS ?_|refine jD ?_|refine jB ?_)
    exact jR
   | true =>
    refine jC Tryz.func224 Tryz.ntmps224 (fun w0 β0 ext hβ=>?_)
    repeat (first|refine jS ?_|refine jD ?_|refine jB ?_|refine jV h1 ?_|refine jV h2 ?_)
    rw [e1]
    repeat (first|refine jS ?_|refine jD ?_|refine jB ?_)
    rw [e2]
    cases b4
    all_goals (
     repeat (first|refine jS ?_|refine jD ?_|refine jB ?_)
    )
    all_goals exact jR
def fnA (k:FuncId):AVal:=.fn (.func k) [] []
def howC:List AVal:=[iv 0,iv 0,.v .nilFunc,iv 1,iv (-1),fnA 253,iv 2,iv (-1),fnA 254,iv 2,iv (-1),fnA 255,
 iv 2,iv (-1),fnA 256,iv 3,iv (-1),fnA 257,iv 3,iv (-1),fnA 258,iv 3,iv (-1),fnA 259,iv 3,iv (-1),fnA 260,
 iv 3,iv (-1),fnA 261,iv 0,iv 0,fnA 262,iv 1,iv 1,fnA 263,iv 1,iv 1,fnA 264,iv 0,iv 0,.v .nilFunc,iv 0,iv (-1),.v .nilFunc,iv 1,iv (-1),fnA 265]
theorem all_ok:ACalls Tryz.prog 225 [] [] (one (.agg howC) []):=by
 refine jC Tryz.func225 Tryz.ntmps225 (fun w0 β0 ext hβ=>?_)
 repeat (first|refine jS ?_|refine jD ?_|refine jB ?_)
 exact jR
theorem abc_get (a b c:Int) {k:Nat} (h:k < 3) {o:Nat} (ho:o=k):takeA ty3 [iv a,iv b,iv c] o=some (iv (at' [a,b,c] (k:Int))):=by
 subst ho
 match o,h with
 | 0,_=>rfl
 | 1,_=>rfl
 | 2,_=>rfl
 | k+3,h=>omega
theorem lmay_ok (n:Nat) (tg:Int) (fn:AVal) (i:Ins) (hn:n≤3) (ht:tg = -1∨0≤tg∧tg < 3) (hf:fn = .v .nilFunc∨∃ k,fn=fnA k) :
  ACalls Tryz.prog 227 [.agg [iv (n:Int),iv tg,fn],encIns i] [] (one (bv ((([i.a,i.b,i.c].take n).all fun k=>inn k 0 7)&&(decide (tg = -1)||inn (g0 [i.a,i.b,i.c] tg.toNat) 0 1000))) []):=by
 have h1:=fun v=>lin_ok v 0 7
 have h2:=lin_ok (g0 [i.a,i.b,i.c] tg.toNat) 0 1000
 have e1:(tg == -1)=decide (tg = -1):=rfl
 have htk:([i.a,i.b,i.c].take n).length=n:=by simp;omega
 have hta:∀ q:Nat,q < n→at' ([i.a,i.b,i.c].take n) (q:Int)=at' [i.a,i.b,i.c] (q:Int):=fun q hq=>by
  rw [at_nat _ q (by omega),at_nat _ q (by simp;omega)];simp
 obtain ⟨hz1,hz2⟩:=allAt (l:=[i.a,i.b,i.c].take n) (p:=fun k=>inn k 0 7)
 rw [htk] at hz1 hz2
 unfold encIns
 rcases hf with rfl|⟨kf,rfl⟩
 all_goals (
  refine jC Tryz.func227 Tryz.ntmps227 (fun w0 β0 ext hβ=>?_)
  repeat (first|refine jS ?_|refine jD ?_|refine jB ?_|refine jo rfl rfl (slice_box 0 n rfl rfl ⟨_,rfl⟩ rfl rfl rfl (by omega) (by omega) (by omega)) rfl rfl ?_|refine jo rfl rfl (len_bs rfl rfl rfl) rfl rfl ?_)
  refine jloopI (fun k:Nat=>k≤n∧∀ q,q < k→inn (at' ([i.a,i.b,i.c].take n) (q:Int)) 0 7=true) [2,5,17,18,19] (fun k=>[.ptr 0 0,.ptr 2 0,.bs 2 0 n 3,iv (n:Int),iv (k:Int)])
   (fun k=>_) (fun k=>n-k) 0 ⟨Nat.zero_le _,fun q h=>absurd h (by omega)⟩ rfl rfl (fun k hk=>?_)
  obtain ⟨hk,hok⟩:=hk
  repeat (first|refine jS ?_|refine jD ?_|refine jB ?_)
  refine jc rfl rfl rfl (fun h=>?_) (fun h=>?_)
  ·have h:=of_decide_eq_true h
   have hk2:k < n:=by omega
   have hidx:IntKind.i64.wrap ((k:Int)+1)=((k+1:Nat):Int):=idx_next hk2 (by omega)
   have h1:=h1 (at' [i.a,i.b,i.c] (k:Int))
   have hno:=hz2 k hk2
   rw [hta k hk2] at hno
   have hnx:inn (at' [i.a,i.b,i.c] (k:Int)) 0 7=true→∀ q,q < k+1→inn (at' ([i.a,i.b,i.c].take n) (q:Int)) 0 7=true:=fun hb q hq=>by
    by_cases e:q=k
    ·subst e;rw [hta _ hk2];exact hb
    ·exact hok q (by omega)
   have hcell:=abc_get i.a i.b i.c (k:=k) (by omega) (o:=0+((k:Int)).toNat*ty3.size) (by show 0+k*1=k;omega)
   repeat (first|refine jS ?_|refine jD ?_|refine jB ?_|refine jo rfl rfl (index_bs rfl rfl rfl rfl rfl (Int.natCast_nonneg k) h) rfl rfl ?_|refine jo rfl rfl (load_dsem (r:=ty3) rfl rfl rfl hcell) rfl rfl ?_|refine jV h1 ?_)
   cases hb:inn (at' [i.a,i.b,i.c] (k:Int)) 0 7 with
   | false =>
    repeat (first|refine jS ?_|refine jD ?_|refine jB ?_)
    rw [hno hb]
    exact jR
   | true =>
    repeat (first|refine jS ?_|refine jD ?_|refine jB ?_)
    refine jnextI (k+1) ⟨by omega,hnx hb⟩ ?_ rfl (by omega)
    show some _=some _
    rw [hidx]
    rfl
  ·have h:=of_decide_eq_false h
   rw [hz1 fun q hq=>hok q (by omega)]
   repeat (first|refine jS ?_|refine jD ?_|refine jB ?_)
   rw [e1]
   rcases ht with rfl|⟨t0,t3⟩
   ·repeat (first|refine jS ?_|refine jD ?_|refine jB ?_)
    exact jR
   ·rw [show decide (tg = -1)=false from decide_eq_false (by omega)]
    have hcell:=abc_get i.a i.b i.c (k:=tg.toNat) (by omega) (o:=0+tg.toNat*ty3.size) (by show 0+tg.toNat*1=tg.toNat;omega)
    rw [show at' [i.a,i.b,i.c] ((tg.toNat:Nat):Int)=g0 [i.a,i.b,i.c] tg.toNat from rfl] at hcell
    repeat (first|refine jS ?_|refine jD ?_|refine jB ?_|refine jo rfl rfl (index_arr rfl rfl rfl rfl rfl t0 t3) rfl rfl ?_|refine jo rfl rfl (load_dsem (r:=ty3) rfl rfl rfl hcell) rfl rfl ?_|refine jV h2 ?_)
    exact jR
 )
def lwC (t:Thr) (s:Int) (i:Ins):List AVal :=
 [iv t.pc,iv (g0 t.regs 0),iv (g0 t.regs 1),iv (g0 t.regs 2),iv (g0 t.regs 3),iv (g0 t.regs 4),iv (g0 t.regs 5),iv (g0 t.regs 6),iv (g0 t.regs 7),.sl (t.frames.map encFrm),iv t.state,iv t.fault,.slz (t.left.map iv),iv s,iv i.op,iv i.a,iv i.b,iv i.c]
theorem eight {k:Int} (h0:0≤k) (h8:k < 8):k=0∨k=1∨k=2∨k=3∨k=4∨k=5∨k=6∨k=7:=by omega
theorem lw_get (t:Thr) (s:Int) (i:Ins) {k:Int} (h0:0≤k) (h8:k < 8):takeA ty3 (lwC t s i) (0+1+k.toNat*ty3.size)=some (iv (rg t k)):=by
 rcases eight h0 h8 with rfl|rfl|rfl|rfl|rfl|rfl|rfl|rfl<;>rfl
theorem lw_set (t:Thr) (s:Int) (i:Ins) (v:Int) {k:Int} (h0:0≤k) (h8:k < 8):spliceA (lwC t s i) (0+1+k.toNat*ty3.size) [iv v]=lwC (setR t k v) s i:=by
 rcases eight h0 h8 with rfl|rfl|rfl|rfl|rfl|rfl|rfl|rfl<;>rfl
theorem lone_ok (t:Thr) (s:Int) (i:Ins) (h0:0≤i.b) (h8:i.b < 8):ACalls Tryz.prog 286 [.ptr 0 0] [.box 314 (lwC t s i)] (one (iv (rg t i.b)) [.box 314 (lwC t s i)]):=by
 have hg:=lw_get t s i h0 h8
 unfold lwC at *
 refine jC Tryz.func286 Tryz.ntmps286 (fun w0 β0 ext hβ=>?_)
 repeat (first|refine jS ?_|refine jD ?_|refine jB ?_|refine jo rfl rfl (index_arr rfl rfl rfl rfl rfl h0 h8) rfl rfl ?_|refine jo rfl rfl (load_dsem (r:=ty3) rfl rfl rfl hg) rfl rfl ?_)
 exact jR
theorem ltwo_ok (t:Thr) (s:Int) (i:Ins) (h0:0≤i.c) (h8:i.c < 8):ACalls Tryz.prog 287 [.ptr 0 0] [.box 314 (lwC t s i)] (one (iv (rg t i.c)) [.box 314 (lwC t s i)]):=by
 have hg:=lw_get t s i h0 h8
 unfold lwC at *
 refine jC Tryz.func287 Tryz.ntmps287 (fun w0 β0 ext hβ=>?_)
 repeat (first|refine jS ?_|refine jD ?_|refine jB ?_|refine jo rfl rfl (index_arr rfl rfl rfl rfl rfl h0 h8) rfl rfl ?_|refine jo rfl rfl (load_dsem (r:=ty3) rfl rfl rfl hg) rfl rfl ?_)
 exact jR
theorem lset_ok (t:Thr) (s:Int) (i:Ins) (v:Int) (h0:0≤i.a) (h8:i.a < 8):ACalls Tryz.prog 285 [.ptr 0 0,iv v] [.box 314 (lwC t s i)] (one (.tup []) [.box 314 (lwC (setR t i.a v) s i)]):=by
 have hg:=lw_set t s i v h0 h8
 have hle:0+1+i.a.toNat*ty3.size+1≤18:=by show 0+1+i.a.toNat*1+1≤18;omega
 unfold lwC at *
 refine jC Tryz.func285 Tryz.ntmps285 (fun w0 β0 ext hβ=>?_)
 repeat (first|refine jS ?_|refine jD ?_|refine jB ?_|refine jo rfl rfl (index_arr rfl rfl rfl rfl rfl h0 h8) rfl rfl ?_|refine jo rfl rfl (store_box (r':=ty3) (v:=iv v) rfl rfl rfl rfl rfl rfl hle hg) rfl rfl ?_)
 exact jend [] true rfl rfl rfl ⟨rfl,rfl⟩
theorem lm_load (t:Thr) (s:Int) (i:Ins) (ha0:0≤i.a) (ha8:i.a < 8):ACalls Tryz.prog 253 [.ptr 0 0] [.box 314 (lwC t s i)] (one (.tup []) [.box 314 (lwC (setR t i.a (i.b)) s i)]):=by
 have hs:=lset_ok t s i (i.b) ha0 ha8
 unfold lwC at *
 refine jC Tryz.func253 Tryz.ntmps253 (fun w0 β0 ext hβ=>?_)
 repeat (first|refine jS ?_|refine jD ?_|refine jB ?_)
 refine jBb [0] hs ?_
 repeat (first|refine jS ?_|refine jD ?_|refine jB ?_)
 exact jend [] true rfl rfl rfl ⟨rfl,rfl⟩
theorem lm_move (t:Thr) (s:Int) (i:Ins) (ha0:0≤i.a) (ha8:i.a < 8) (hb0:0≤i.b) (hb8:i.b < 8):ACalls Tryz.prog 254 [.ptr 0 0] [.box 314 (lwC t s i)] (one (.tup []) [.box 314 (lwC (setR t i.a (rg t i.b)) s i)]):=by
 have hs:=lset_ok t s i (rg t i.b) ha0 ha8
 have h1:=lone_ok t s i hb0 hb8
 unfold lwC at *
 refine jC Tryz.func254 Tryz.ntmps254 (fun w0 β0 ext hβ=>?_)
 repeat (first|refine jS ?_|refine jD ?_|refine jB ?_)
 refine jBb [0] h1 ?_
 repeat (first|refine jS ?_|refine jD ?_|refine jB ?_)
 refine jBb [0] hs ?_
 repeat (first|refine jS ?_|refine jD ?_|refine jB ?_)
 exact jend [] true rfl rfl rfl ⟨rfl,rfl⟩
theorem lm_plus (t:Thr) (s:Int) (i:Ins) (ha0:0≤i.a) (ha8:i.a < 8) (hb0:0≤i.b) (hb8:i.b < 8):ACalls Tryz.prog 255 [.ptr 0 0] [.box 314 (lwC t s i)] (one (.tup []) [.box 314 (lwC (setR t i.a (IntKind.i64.wrap (rg t i.b+i.c))) s i)]):=by
 have hs:=lset_ok t s i (IntKind.i64.wrap (rg t i.b+i.c)) ha0 ha8
 have h1:=lone_ok t s i hb0 hb8
 unfold lwC at *
 refine jC Tryz.func255 Tryz.ntmps255 (fun w0 β0 ext hβ=>?_)
 refine jdrawPT [(0,.p),(1,.p),(2,.s),(3,.p),(4,.p),(5,.p),(6,.p),(7,.r),(8,.p),(9,.m)] rfl (by kernel_rfl) ?_
 repeat (first|refine jS ?_|refine jD ?_|refine jB ?_)
 refine jbs [0] h1 rfl rfl rfl ⟨rfl,rfl,rfl,rfl,rfl,rfl⟩ rfl rfl rfl rfl ?_
 repeat (first|refine jS ?_|refine jD ?_|refine jB ?_)
 refine jBb [0] hs ?_
 repeat (first|refine jS ?_|refine jD ?_|refine jB ?_)
 exact jend [] true rfl rfl rfl ⟨rfl,rfl⟩
theorem lm_mask (t:Thr) (s:Int) (i:Ins) (ha0:0≤i.a) (ha8:i.a < 8) (hb0:0≤i.b) (hb8:i.b < 8):ACalls Tryz.prog 256 [.ptr 0 0] [.box 314 (lwC t s i)] (one (.tup []) [.box 314 (lwC (setR t i.a (bitsI .and .i64 (rg t i.b) i.c)) s i)]):=by
 have hs:=lset_ok t s i (bitsI .and .i64 (rg t i.b) i.c) ha0 ha8
 have h1:=lone_ok t s i hb0 hb8
 unfold lwC at *
 refine jC Tryz.func256 Tryz.ntmps256 (fun w0 β0 ext hβ=>?_)
 refine jdrawPT [(0,.p),(1,.p),(2,.s),(3,.p),(4,.p),(5,.p),(6,.p),(7,.r),(8,.p),(9,.m)] rfl (by kernel_rfl) ?_
 repeat (first|refine jS ?_|refine jD ?_|refine jB ?_)
 refine jbs [0] h1 rfl rfl rfl ⟨rfl,rfl,rfl,rfl,rfl,rfl⟩ rfl rfl rfl rfl ?_
 repeat (first|refine jS ?_|refine jD ?_|refine jB ?_)
 refine jBb [0] hs ?_
 repeat (first|refine jS ?_|refine jD ?_|refine jB ?_)
 exact jend [] true rfl rfl rfl ⟨rfl,rfl⟩
theorem lm_add (t:Thr) (s:Int) (i:Ins) (ha0:0≤i.a) (ha8:i.a < 8) (hb0:0≤i.b) (hb8:i.b < 8) (hc0:0≤i.c) (hc8:i.c < 8):ACalls Tryz.prog 257 [.ptr 0 0] [.box 314 (lwC t s i)] (one (.tup []) [.box 314 (lwC (setR t i.a (IntKind.i64.wrap (rg t i.b+rg t i.c))) s i)]):=by
 have hs:=lset_ok t s i (IntKind.i64.wrap (rg t i.b+rg t i.c)) ha0 ha8
 have h1:=lone_ok t s i hb0 hb8
 have h2:=ltwo_ok t s i hc0 hc8
 unfold lwC at *
 refine jC Tryz.func257 Tryz.ntmps257 (fun w0 β0 ext hβ=>?_)
 repeat (first|refine jS ?_|refine jD ?_|refine jB ?_)
 refine jBb [0] h1 ?_
 repeat (first|refine jS ?_|refine jD ?_|refine jB ?_)
 refine jBb [0] h2 ?_
 repeat (first|refine jS ?_|refine jD ?_|refine jB ?_)
 refine jBb [0] hs ?_
 repeat (first|refine jS ?_|refine jD ?_|refine jB ?_)
 exact jend [] true rfl rfl rfl ⟨rfl,rfl⟩
theorem lm_sub (t:Thr) (s:Int) (i:Ins) (ha0:0≤i.a) (ha8:i.a < 8) (hb0:0≤i.b) (hb8:i.b < 8) (hc0:0≤i.c) (hc8:i.c < 8):ACalls Tryz.prog 258 [.ptr 0 0] [.box 314 (lwC t s i)] (one (.tup []) [.box 314 (lwC (setR t i.a (IntKind.i64.wrap (rg t i.b-rg t i.c))) s i)]):=by
 have hs:=lset_ok t s i (IntKind.i64.wrap (rg t i.b-rg t i.c)) ha0 ha8
 have h1:=lone_ok t s i hb0 hb8
 have h2:=ltwo_ok t s i hc0 hc8
 unfold lwC at *
 refine jC Tryz.func258 Tryz.ntmps258 (fun w0 β0 ext hβ=>?_)
 repeat (first|refine jS ?_|refine jD ?_|refine jB ?_)
 refine jBb [0] h1 ?_
 repeat (first|refine jS ?_|refine jD ?_|refine jB ?_)
 refine jBb [0] h2 ?_
 repeat (first|refine jS ?_|refine jD ?_|refine jB ?_)
 refine jBb [0] hs ?_
 repeat (first|refine jS ?_|refine jD ?_|refine jB ?_)
 exact jend [] true rfl rfl rfl ⟨rfl,rfl⟩
theorem lm_and (t:Thr) (s:Int) (i:Ins) (ha0:0≤i.a) (ha8:i.a < 8) (hb0:0≤i.b) (hb8:i.b < 8) (hc0:0≤i.c) (hc8:i.c < 8):ACalls Tryz.prog 259 [.ptr 0 0] [.box 314 (lwC t s i)] (one (.tup []) [.box 314 (lwC (setR t i.a (bitsI .and .i64 (rg t i.b) (rg t i.c))) s i)]):=by
 have hs:=lset_ok t s i (bitsI .and .i64 (rg t i.b) (rg t i.c)) ha0 ha8
 have h1:=lone_ok t s i hb0 hb8
 have h2:=ltwo_ok t s i hc0 hc8
 unfold lwC at *
 refine jC Tryz.func259 Tryz.ntmps259 (fun w0 β0 ext hβ=>?_)
 repeat (first|refine jS ?_|refine jD ?_|refine jB ?_)
 refine jBb [0] h1 ?_
 repeat (first|refine jS ?_|refine jD ?_|refine jB ?_)
 refine jBb [0] h2 ?_
 repeat (first|refine jS ?_|refine jD ?_|refine jB ?_)
 refine jBb [0] hs ?_
 repeat (first|refine jS ?_|refine jD ?_|refine jB ?_)
 exact jend [] true rfl rfl rfl ⟨rfl,rfl⟩
theorem lm_xor (t:Thr) (s:Int) (i:Ins) (ha0:0≤i.a) (ha8:i.a < 8) (hb0:0≤i.b) (hb8:i.b < 8) (hc0:0≤i.c) (hc8:i.c < 8):ACalls Tryz.prog 260 [.ptr 0 0] [.box 314 (lwC t s i)] (one (.tup []) [.box 314 (lwC (setR t i.a (bitsI .xor .i64 (rg t i.b) (rg t i.c))) s i)]):=by
 have hs:=lset_ok t s i (bitsI .xor .i64 (rg t i.b) (rg t i.c)) ha0 ha8
 have h1:=lone_ok t s i hb0 hb8
 have h2:=ltwo_ok t s i hc0 hc8
 unfold lwC at *
 refine jC Tryz.func260 Tryz.ntmps260 (fun w0 β0 ext hβ=>?_)
 repeat (first|refine jS ?_|refine jD ?_|refine jB ?_)
 refine jBb [0] h1 ?_
 repeat (first|refine jS ?_|refine jD ?_|refine jB ?_)
 refine jBb [0] h2 ?_
 repeat (first|refine jS ?_|refine jD ?_|refine jB ?_)
 refine jBb [0] hs ?_
 repeat (first|refine jS ?_|refine jD ?_|refine jB ?_)
 exact jend [] true rfl rfl rfl ⟨rfl,rfl⟩
theorem lm_who (t:Thr) (s:Int) (i:Ins) (ha0:0≤i.a) (ha8:i.a < 8):ACalls Tryz.prog 265 [.ptr 0 0] [.box 314 (lwC t s i)] (one (.tup []) [.box 314 (lwC (setR t i.a (s)) s i)]):=by
 have hs:=lset_ok t s i (s) ha0 ha8
 unfold lwC at *
 refine jC Tryz.func265 Tryz.ntmps265 (fun w0 β0 ext hβ=>?_)
 repeat (first|refine jS ?_|refine jD ?_|refine jB ?_)
 refine jBb [0] hs ?_
 repeat (first|refine jS ?_|refine jD ?_|refine jB ?_)
 exact jend [] true rfl rfl rfl ⟨rfl,rfl⟩
theorem lm_less (t:Thr) (s:Int) (i:Ins) (ha0:0≤i.a) (ha8:i.a < 8) (hb0:0≤i.b) (hb8:i.b < 8) (hc0:0≤i.c) (hc8:i.c < 8):ACalls Tryz.prog 261 [.ptr 0 0] [.box 314 (lwC t s i)]
  (one (.tup []) [.box 314 (lwC (setR t i.a (cond (decide (rg t i.b < rg t i.c)) 1 0)) s i)]):=by
 have hs0:=lset_ok t s i 0 ha0 ha8
 have hs1:=lset_ok (setR t i.a 0) s i 1 ha0 ha8
 have h1:=lone_ok t s i hb0 hb8
 have h2:=ltwo_ok t s i hc0 hc8
 have hss:∀ v w,lwC (setR (setR t i.a v) i.a w) s i=lwC (setR t i.a w) s i:=fun v w=>by
  rw [←lw_set (setR t i.a v) s i w ha0 ha8,←lw_set t s i w ha0 ha8,←lw_set t s i v ha0 ha8]
  rcases eight ha0 ha8 with e|e|e|e|e|e|e|e<;>rw [e]<;>rfl
 rw [hss] at hs1
 unfold lwC at *
 refine jC Tryz.func261 Tryz.ntmps261 (fun w0 β0 ext hβ=>?_)
 repeat (first|refine jS ?_|refine jD ?_|refine jB ?_)
 refine jBb [0] h1 ?_
 repeat (first|refine jS ?_|refine jD ?_|refine jB ?_)
 refine jBb [0] h2 ?_
 repeat (first|refine jS ?_|refine jD ?_|refine jB ?_)
 refine jBb [0] hs0 ?_
 repeat (first|refine jS ?_|refine jD ?_|refine jB ?_)
 cases hd:decide (rg t i.b < rg t i.c) with
 | false =>
  repeat (first|refine jS ?_|refine jD ?_|refine jB ?_)
  exact jend [] true rfl rfl rfl ⟨rfl,rfl⟩
 | true =>
  repeat (first|refine jS ?_|refine jD ?_|refine jB ?_)
  refine jBb [0] hs1 ?_
  repeat (first|refine jS ?_|refine jD ?_|refine jB ?_)
  exact jend [] true rfl rfl rfl ⟨rfl,rfl⟩
theorem lm_jump (t:Thr) (s:Int) (i:Ins):ACalls Tryz.prog 262 [.ptr 0 0] [.box 314 (lwC t s i)] (one (.tup []) [.box 314 (lwC { t with pc:=i.a } s i)]):=by
 unfold lwC
 refine jC Tryz.func262 Tryz.ntmps262 (fun w0 β0 ext hβ=>?_)
 repeat (first|refine jS ?_|refine jD ?_|refine jB ?_)
 exact jend [] true rfl rfl rfl ⟨rfl,rfl⟩
theorem lm_zero (t:Thr) (s:Int) (i:Ins) (ha0:0≤i.a) (ha8:i.a < 8):ACalls Tryz.prog 263 [.ptr 0 0] [.box 314 (lwC t s i)] (one (.tup []) [.box 314 (lwC (cond (decide (rg t i.a=0)) { t with pc:=i.b } t) s i)]):=by
 have hg:=lw_get t s i ha0 ha8
 have hd:(rg t i.a == 0)=decide (rg t i.a=0):=rfl
 unfold lwC at *
 refine jC Tryz.func263 Tryz.ntmps263 (fun w0 β0 ext hβ=>?_)
 repeat (first|refine jS ?_|refine jD ?_|refine jB ?_|refine jo rfl rfl (index_arr rfl rfl rfl rfl rfl ha0 ha8) rfl rfl ?_|refine jo rfl rfl (load_dsem (r:=ty3) rfl rfl rfl hg) rfl rfl ?_)
 rw [hd]
 cases decide (rg t i.a=0)
 all_goals (
  repeat (first|refine jS ?_|refine jD ?_|refine jB ?_)
 )
 all_goals exact jend [] true rfl rfl rfl ⟨rfl,rfl⟩
theorem lm_some (t:Thr) (s:Int) (i:Ins) (ha0:0≤i.a) (ha8:i.a < 8):ACalls Tryz.prog 264 [.ptr 0 0] [.box 314 (lwC t s i)] (one (.tup []) [.box 314 (lwC (cond (decide (rg t i.a=0)) t { t with pc:=i.b }) s i)]):=by
 have hg:=lw_get t s i ha0 ha8
 have hd:(rg t i.a != 0) = !decide (rg t i.a=0):=rfl
 unfold lwC at *
 refine jC Tryz.func264 Tryz.ntmps264 (fun w0 β0 ext hβ=>?_)
 repeat (first|refine jS ?_|refine jD ?_|refine jB ?_|refine jo rfl rfl (index_arr rfl rfl rfl rfl rfl ha0 ha8) rfl rfl ?_|refine jo rfl rfl (load_dsem (r:=ty3) rfl rfl rfl hg) rfl rfl ?_)
 rw [hd]
 cases decide (rg t i.a=0)
 all_goals (
  repeat (first|refine jS ?_|refine jD ?_|refine jB ?_)
 )
 all_goals exact jend [] true rfl rfl rfl ⟨rfl,rfl⟩
end Go.AL
end
section
set_option maxRecDepth 100000
namespace Go.AL
open Go Go.Proofs
attribute [local irreducible] J
theorem all_take1 {p:Int→Bool} {a b c:Int} (h:([a,b,c].take 1).all p=true):p a=true:=by simpa using h
theorem all_take2 {p:Int→Bool} {a b c:Int} (h:([a,b,c].take 2).all p=true):p a=true∧p b=true:=by simpa using h
theorem all_take3 {p:Int→Bool} {a b c:Int} (h:([a,b,c].take 3).all p=true):p a=true∧p b=true∧p c=true:=by simpa using h
theorem inn7 {v:Int} (h:inn v 0 7=true):0≤v∧v < 8:=by have:=inn_iff.1 h;omega
theorem inn15 {v:Int} (h:inn v 1 15=true):v=1∨v=2∨v=3∨v=4∨v=5∨v=6∨v=7∨v=8∨v=9∨v=10∨v=11∨v=12∨v=13∨v=14∨v=15:=by
 have:=inn_iff.1 h;omega
theorem loReady_of (t:Thr) (s:Int):loReady t s=1∨loReady t s=9∨(loReady t s=0∧thRight t=true):=by
 unfold loReady
 cases thRight t<;>cases inn s 0 7<;>cases decide (t.state=0)<;>cases decide (0 < t.left.length)<;>simp
def loGo (s:Int) (i:Ins) (t:Thr):Thr × Int :=
 cond (!loMay i) (thr0,3) (cond (decide (i.op=13)) (frCall t i.a) (cond (decide (i.op=14)) (frBack t) (loDo s i { t with pc:=t.pc+1 },0)))
theorem ap_1 (t:Thr) (s a b c:Int) (hf:t.frames.length≤1000) (hl:t.left.length≤1000000) (hr:loReady t s=0) (hp:0≤t.pc∧t.pc≤1000) (h10:(t.pc == 1000)=false) :
  ACalls Tryz.prog 190 [encThr t,iv s,.agg [iv 1,iv a,iv b,iv c]] [] (one (.tup [resThr (loGo s ⟨1,a,b,c⟩ t),iv (loGo s ⟨1,a,b,c⟩ t).2]) []):=by
 have h1:=ready_ok t s (by omega) hl
 rw [hr] at h1
 have h2:=lin_ok 1 1 15
 have h3:=all_ok
 have h4:ACalls Tryz.prog 227 [.agg [iv 1,iv (-1),fnA 253],.agg [iv 1,iv a,iv b,iv c]] [] (one (bv (loMay ⟨1,a,b,c⟩)) []):=lmay_ok 1 (-1) (fnA 253) ⟨1,a,b,c⟩ (by decide) (by decide) (.inr ⟨_,rfl⟩)
 have hw:IntKind.i64.wrap (t.pc+1)=t.pc+1:=by rw [wrap_id]<;>omega
 unfold loGo
 unfold encThr thCells at *
 cases hm:loMay ⟨1,a,b,c⟩ with
 | false =>
  rw [hm] at h4
  refine jC Tryz.func190 Tryz.ntmps190 (fun w0 β0 ext hβ=>?_)
  repeat (first|refine jS ?_|refine jD ?_|refine jB ?_|refine jV h1 ?_)
  rw [h10]
  repeat (first|refine jS ?_|refine jD ?_|refine jB ?_|refine jV h3 ?_|refine jV h2 ?_|refine jo rfl rfl (index_arr rfl rfl rfl rfl rfl (by decide) (by decide)) rfl rfl ?_|refine jV h4 ?_)
  exact jR
 | true =>
  rw [hm] at h4
  have hm2:=(Bool.and_eq_true _ _ ▸ (show (([a,b,c].take 1).all (fun k=>inn k 0 7)&&_)=true from hm)).1
  have ra:=inn7 (all_take1 (p:=fun k=>inn k 0 7) hm2)
  have h5:=lm_load { t with pc:=t.pc+1 } s ⟨1,a,b,c⟩ ra.1 ra.2
  unfold lwC at h5
  refine jC Tryz.func190 Tryz.ntmps190 (fun w0 β0 ext hβ=>?_)
  repeat (first|refine jS ?_|refine jD ?_|refine jB ?_|refine jV h1 ?_)
  rw [h10]
  repeat (first|refine jS ?_|refine jD ?_|refine jB ?_|refine jV h3 ?_|refine jV h2 ?_|refine jo rfl rfl (index_arr rfl rfl rfl rfl rfl (by decide) (by decide)) rfl rfl ?_|refine jV h4 ?_)
  rw [hw]
  repeat (first|refine jS ?_|refine jD ?_|refine jB ?_|refine jo rfl rfl (index_arr rfl rfl rfl rfl rfl (by decide) (by decide)) rfl rfl ?_)
  refine jBb [4] h5 ?_
  repeat (first|refine jS ?_|refine jD ?_|refine jB ?_)
  exact jR
theorem ap_2 (t:Thr) (s a b c:Int) (hf:t.frames.length≤1000) (hl:t.left.length≤1000000) (hr:loReady t s=0) (hp:0≤t.pc∧t.pc≤1000) (h10:(t.pc == 1000)=false) :
  ACalls Tryz.prog 190 [encThr t,iv s,.agg [iv 2,iv a,iv b,iv c]] [] (one (.tup [resThr (loGo s ⟨2,a,b,c⟩ t),iv (loGo s ⟨2,a,b,c⟩ t).2]) []):=by
 have h1:=ready_ok t s (by omega) hl
 rw [hr] at h1
 have h2:=lin_ok 2 1 15
 have h3:=all_ok
 have h4:ACalls Tryz.prog 227 [.agg [iv 2,iv (-1),fnA 254],.agg [iv 2,iv a,iv b,iv c]] [] (one (bv (loMay ⟨2,a,b,c⟩)) []):=lmay_ok 2 (-1) (fnA 254) ⟨2,a,b,c⟩ (by decide) (by decide) (.inr ⟨_,rfl⟩)
 have hw:IntKind.i64.wrap (t.pc+1)=t.pc+1:=by rw [wrap_id]<;>omega
 unfold loGo
 unfold encThr thCells at *
 cases hm:loMay ⟨2,a,b,c⟩ with
 | false =>
  rw [hm] at h4
  refine jC Tryz.func190 Tryz.ntmps190 (fun w0 β0 ext hβ=>?_)
  repeat (first|refine jS ?_|refine jD ?_|refine jB ?_|refine jV h1 ?_)
  rw [h10]
  repeat (first|refine jS ?_|refine jD ?_|refine jB ?_|refine jV h3 ?_|refine jV h2 ?_|refine jo rfl rfl (index_arr rfl rfl rfl rfl rfl (by decide) (by decide)) rfl rfl ?_|refine jV h4 ?_)
  exact jR
 | true =>
  rw [hm] at h4
  have hm2:=(Bool.and_eq_true _ _ ▸ (show (([a,b,c].take 2).all (fun k=>inn k 0 7)&&_)=true from hm)).1
  obtain ⟨ra,rb⟩:=all_take2 (p:=fun k=>inn k 0 7) hm2
  have ra:=inn7 ra
  have rb:=inn7 rb
  have h5:=lm_move { t with pc:=t.pc+1 } s ⟨2,a,b,c⟩ ra.1 ra.2 rb.1 rb.2
  unfold lwC at h5
  refine jC Tryz.func190 Tryz.ntmps190 (fun w0 β0 ext hβ=>?_)
  repeat (first|refine jS ?_|refine jD ?_|refine jB ?_|refine jV h1 ?_)
  rw [h10]
  repeat (first|refine jS ?_|refine jD ?_|refine jB ?_|refine jV h3 ?_|refine jV h2 ?_|refine jo rfl rfl (index_arr rfl rfl rfl rfl rfl (by decide) (by decide)) rfl rfl ?_|refine jV h4 ?_)
  rw [hw]
  repeat (first|refine jS ?_|refine jD ?_|refine jB ?_|refine jo rfl rfl (index_arr rfl rfl rfl rfl rfl (by decide) (by decide)) rfl rfl ?_)
  refine jBb [4] h5 ?_
  repeat (first|refine jS ?_|refine jD ?_|refine jB ?_)
  exact jR
theorem ap_3 (t:Thr) (s a b c:Int) (hf:t.frames.length≤1000) (hl:t.left.length≤1000000) (hr:loReady t s=0) (hp:0≤t.pc∧t.pc≤1000) (h10:(t.pc == 1000)=false) :
  ACalls Tryz.prog 190 [encThr t,iv s,.agg [iv 3,iv a,iv b,iv c]] [] (one (.tup [resThr (loGo s ⟨3,a,b,c⟩ t),iv (loGo s ⟨3,a,b,c⟩ t).2]) []):=by
 have h1:=ready_ok t s (by omega) hl
 rw [hr] at h1
 have h2:=lin_ok 3 1 15
 have h3:=all_ok
 have h4:ACalls Tryz.prog 227 [.agg [iv 2,iv (-1),fnA 255],.agg [iv 3,iv a,iv b,iv c]] [] (one (bv (loMay ⟨3,a,b,c⟩)) []):=lmay_ok 2 (-1) (fnA 255) ⟨3,a,b,c⟩ (by decide) (by decide) (.inr ⟨_,rfl⟩)
 have hw:IntKind.i64.wrap (t.pc+1)=t.pc+1:=by rw [wrap_id]<;>omega
 unfold loGo
 unfold encThr thCells at *
 cases hm:loMay ⟨3,a,b,c⟩ with
 | false =>
  rw [hm] at h4
  refine jC Tryz.func190 Tryz.ntmps190 (fun w0 β0 ext hβ=>?_)
  repeat (first|refine jS ?_|refine jD ?_|refine jB ?_|refine jV h1 ?_)
  rw [h10]
  repeat (first|refine jS ?_|refine jD ?_|refine jB ?_|refine jV h3 ?_|refine jV h2 ?_|refine jo rfl rfl (index_arr rfl rfl rfl rfl rfl (by decide) (by decide)) rfl rfl ?_|refine jV h4 ?_)
  exact jR
 | true =>
  rw [hm] at h4
  have hm2:=(Bool.and_eq_true _ _ ▸ (show (([a,b,c].take 2).all (fun k=>inn k 0 7)&&_)=true from hm)).1
  obtain ⟨ra,rb⟩:=all_take2 (p:=fun k=>inn k 0 7) hm2
  have ra:=inn7 ra
  have rb:=inn7 rb
  have h5:=lm_plus { t with pc:=t.pc+1 } s ⟨3,a,b,c⟩ ra.1 ra.2 rb.1 rb.2
  unfold lwC at h5
  refine jC Tryz.func190 Tryz.ntmps190 (fun w0 β0 ext hβ=>?_)
  repeat (first|refine jS ?_|refine jD ?_|refine jB ?_|refine jV h1 ?_)
  rw [h10]
  repeat (first|refine jS ?_|refine jD ?_|refine jB ?_|refine jV h3 ?_|refine jV h2 ?_|refine jo rfl rfl (index_arr rfl rfl rfl rfl rfl (by decide) (by decide)) rfl rfl ?_|refine jV h4 ?_)
  rw [hw]
  repeat (first|refine jS ?_|refine jD ?_|refine jB ?_|refine jo rfl rfl (index_arr rfl rfl rfl rfl rfl (by decide) (by decide)) rfl rfl ?_)
  refine jBb [4] h5 ?_
  repeat (first|refine jS ?_|refine jD ?_|refine jB ?_)
  exact jR
theorem ap_4 (t:Thr) (s a b c:Int) (hf:t.frames.length≤1000) (hl:t.left.length≤1000000) (hr:loReady t s=0) (hp:0≤t.pc∧t.pc≤1000) (h10:(t.pc == 1000)=false) :
  ACalls Tryz.prog 190 [encThr t,iv s,.agg [iv 4,iv a,iv b,iv c]] [] (one (.tup [resThr (loGo s ⟨4,a,b,c⟩ t),iv (loGo s ⟨4,a,b,c⟩ t).2]) []):=by
 have h1:=ready_ok t s (by omega) hl
 rw [hr] at h1
 have h2:=lin_ok 4 1 15
 have h3:=all_ok
 have h4:ACalls Tryz.prog 227 [.agg [iv 2,iv (-1),fnA 256],.agg [iv 4,iv a,iv b,iv c]] [] (one (bv (loMay ⟨4,a,b,c⟩)) []):=lmay_ok 2 (-1) (fnA 256) ⟨4,a,b,c⟩ (by decide) (by decide) (.inr ⟨_,rfl⟩)
 have hw:IntKind.i64.wrap (t.pc+1)=t.pc+1:=by rw [wrap_id]<;>omega
 unfold loGo
 unfold encThr thCells at *
 cases hm:loMay ⟨4,a,b,c⟩ with
 | false =>
  rw [hm] at h4
  refine jC Tryz.func190 Tryz.ntmps190 (fun w0 β0 ext hβ=>?_)
  repeat (first|refine jS ?_|refine jD ?_|refine jB ?_|refine jV h1 ?_)
  rw [h10]
  repeat (first|refine jS ?_|refine jD ?_|refine jB ?_|refine jV h3 ?_|refine jV h2 ?_|refine jo rfl rfl (index_arr rfl rfl rfl rfl rfl (by decide) (by decide)) rfl rfl ?_|refine jV h4 ?_)
  exact jR
 | true =>
  rw [hm] at h4
  have hm2:=(Bool.and_eq_true _ _ ▸ (show (([a,b,c].take 2).all (fun k=>inn k 0 7)&&_)=true from hm)).1
  obtain ⟨ra,rb⟩:=all_take2 (p:=fun k=>inn k 0 7) hm2
  have ra:=inn7 ra
  have rb:=inn7 rb
  have h5:=lm_mask { t with pc:=t.pc+1 } s ⟨4,a,b,c⟩ ra.1 ra.2 rb.1 rb.2
  unfold lwC at h5
  refine jC Tryz.func190 Tryz.ntmps190 (fun w0 β0 ext hβ=>?_)
  repeat (first|refine jS ?_|refine jD ?_|refine jB ?_|refine jV h1 ?_)
  rw [h10]
  repeat (first|refine jS ?_|refine jD ?_|refine jB ?_|refine jV h3 ?_|refine jV h2 ?_|refine jo rfl rfl (index_arr rfl rfl rfl rfl rfl (by decide) (by decide)) rfl rfl ?_|refine jV h4 ?_)
  rw [hw]
  repeat (first|refine jS ?_|refine jD ?_|refine jB ?_|refine jo rfl rfl (index_arr rfl rfl rfl rfl rfl (by decide) (by decide)) rfl rfl ?_)
  refine jBb [4] h5 ?_
  repeat (first|refine jS ?_|refine jD ?_|refine jB ?_)
  exact jR
theorem ap_5 (t:Thr) (s a b c:Int) (hf:t.frames.length≤1000) (hl:t.left.length≤1000000) (hr:loReady t s=0) (hp:0≤t.pc∧t.pc≤1000) (h10:(t.pc == 1000)=false) :
  ACalls Tryz.prog 190 [encThr t,iv s,.agg [iv 5,iv a,iv b,iv c]] [] (one (.tup [resThr (loGo s ⟨5,a,b,c⟩ t),iv (loGo s ⟨5,a,b,c⟩ t).2]) []):=by
 have h1:=ready_ok t s (by omega) hl
 rw [hr] at h1
 have h2:=lin_ok 5 1 15
 have h3:=all_ok
 have h4:ACalls Tryz.prog 227 [.agg [iv 3,iv (-1),fnA 257],.agg [iv 5,iv a,iv b,iv c]] [] (one (bv (loMay ⟨5,a,b,c⟩)) []):=lmay_ok 3 (-1) (fnA 257) ⟨5,a,b,c⟩ (by decide) (by decide) (.inr ⟨_,rfl⟩)
 have hw:IntKind.i64.wrap (t.pc+1)=t.pc+1:=by rw [wrap_id]<;>omega
 unfold loGo
 unfold encThr thCells at *
 cases hm:loMay ⟨5,a,b,c⟩ with
 | false =>
  rw [hm] at h4
  refine jC Tryz.func190 Tryz.ntmps190 (fun w0 β0 ext hβ=>?_)
  repeat (first|refine jS ?_|refine jD ?_|refine jB ?_|refine jV h1 ?_)
  rw [h10]
  repeat (first|refine jS ?_|refine jD ?_|refine jB ?_|refine jV h3 ?_|refine jV h2 ?_|refine jo rfl rfl (index_arr rfl rfl rfl rfl rfl (by decide) (by decide)) rfl rfl ?_|refine jV h4 ?_)
  exact jR
 | true =>
  rw [hm] at h4
  have hm2:=(Bool.and_eq_true _ _ ▸ (show (([a,b,c].take 3).all (fun k=>inn k 0 7)&&_)=true from hm)).1
  obtain ⟨ra,rb,rc⟩:=all_take3 (p:=fun k=>inn k 0 7) hm2
  have ra:=inn7 ra
  have rb:=inn7 rb
  have rc:=inn7 rc
  have h5:=lm_add { t with pc:=t.pc+1 } s ⟨5,a,b,c⟩ ra.1 ra.2 rb.1 rb.2 rc.1 rc.2
  unfold lwC at h5
  refine jC Tryz.func190 Tryz.ntmps190 (fun w0 β0 ext hβ=>?_)
  repeat (first|refine jS ?_|refine jD ?_|refine jB ?_|refine jV h1 ?_)
  rw [h10]
  repeat (first|refine jS ?_|refine jD ?_|refine jB ?_|refine jV h3 ?_|refine jV h2 ?_|refine jo rfl rfl (index_arr rfl rfl rfl rfl rfl (by decide) (by decide)) rfl rfl ?_|refine jV h4 ?_)
  rw [hw]
  repeat (first|refine jS ?_|refine jD ?_|refine jB ?_|refine jo rfl rfl (index_arr rfl rfl rfl rfl rfl (by decide) (by decide)) rfl rfl ?_)
  refine jBb [4] h5 ?_
  repeat (first|refine jS ?_|refine jD ?_|refine jB ?_)
  exact jR
theorem ap_6 (t:Thr) (s a b c:Int) (hf:t.frames.length≤1000) (hl:t.left.length≤1000000) (hr:loReady t s=0) (hp:0≤t.pc∧t.pc≤1000) (h10:(t.pc == 1000)=false) :
  ACalls Tryz.prog 190 [encThr t,iv s,.agg [iv 6,iv a,iv b,iv c]] [] (one (.tup [resThr (loGo s ⟨6,a,b,c⟩ t),iv (loGo s ⟨6,a,b,c⟩ t).2]) []):=by
 have h1:=ready_ok t s (by omega) hl
 rw [hr] at h1
 have h2:=lin_ok 6 1 15
 have h3:=all_ok
 have h4:ACalls Tryz.prog 227 [.agg [iv 3,iv (-1),fnA 258],.agg [iv 6,iv a,iv b,iv c]] [] (one (bv (loMay ⟨6,a,b,c⟩)) []):=lmay_ok 3 (-1) (fnA 258) ⟨6,a,b,c⟩ (by decide) (by decide) (.inr ⟨_,rfl⟩)
 have hw:IntKind.i64.wrap (t.pc+1)=t.pc+1:=by rw [wrap_id]<;>omega
 unfold loGo
 unfold encThr thCells at *
 cases hm:loMay ⟨6,a,b,c⟩ with
 | false =>
  rw [hm] at h4
  refine jC Tryz.func190 Tryz.ntmps190 (fun w0 β0 ext hβ=>?_)
  repeat (first|refine jS ?_|refine jD ?_|refine jB ?_|refine jV h1 ?_)
  rw [h10]
  repeat (first|refine jS ?_|refine jD ?_|refine jB ?_|refine jV h3 ?_|refine jV h2 ?_|refine jo rfl rfl (index_arr rfl rfl rfl rfl rfl (by decide) (by decide)) rfl rfl ?_|refine jV h4 ?_)
  exact jR
 | true =>
  rw [hm] at h4
  have hm2:=(Bool.and_eq_true _ _ ▸ (show (([a,b,c].take 3).all (fun k=>inn k 0 7)&&_)=true from hm)).1
  obtain ⟨ra,rb,rc⟩:=all_take3 (p:=fun k=>inn k 0 7) hm2
  have ra:=inn7 ra
  have rb:=inn7 rb
  have rc:=inn7 rc
  have h5:=lm_sub { t with pc:=t.pc+1 } s ⟨6,a,b,c⟩ ra.1 ra.2 rb.1 rb.2 rc.1 rc.2
  unfold lwC at h5
  refine jC Tryz.func190 Tryz.ntmps190 (fun w0 β0 ext hβ=>?_)
  repeat (first|refine jS ?_|refine jD ?_|refine jB ?_|refine jV h1 ?_)
  rw [h10]
  repeat (first|refine jS ?_|refine jD ?_|refine jB ?_|refine jV h3 ?_|refine jV h2 ?_|refine jo rfl rfl (index_arr rfl rfl rfl rfl rfl (by decide) (by decide)) rfl rfl ?_|refine jV h4 ?_)
  rw [hw]
  repeat (first|refine jS ?_|refine jD ?_|refine jB ?_|refine jo rfl rfl (index_arr rfl rfl rfl rfl rfl (by decide) (by decide)) rfl rfl ?_)
  refine jBb [4] h5 ?_
  repeat (first|refine jS ?_|refine jD ?_|refine jB ?_)
  exact jR
theorem ap_7 (t:Thr) (s a b c:Int) (hf:t.frames.length≤1000) (hl:t.left.length≤1000000) (hr:loReady t s=0) (hp:0≤t.pc∧t.pc≤1000) (h10:(t.pc == 1000)=false) :
  ACalls Tryz.prog 190 [encThr t,iv s,.agg [iv 7,iv a,iv b,iv c]] [] (one (.tup [resThr (loGo s ⟨7,a,b,c⟩ t),iv (loGo s ⟨7,a,b,c⟩ t).2]) []):=by
 have h1:=ready_ok t s (by omega) hl
 rw [hr] at h1
 have h2:=lin_ok 7 1 15
 have h3:=all_ok
 have h4:ACalls Tryz.prog 227 [.agg [iv 3,iv (-1),fnA 259],.agg [iv 7,iv a,iv b,iv c]] [] (one (bv (loMay ⟨7,a,b,c⟩)) []):=lmay_ok 3 (-1) (fnA 259) ⟨7,a,b,c⟩ (by decide) (by decide) (.inr ⟨_,rfl⟩)
 have hw:IntKind.i64.wrap (t.pc+1)=t.pc+1:=by rw [wrap_id]<;>omega
 unfold loGo
 unfold encThr thCells at *
 cases hm:loMay ⟨7,a,b,c⟩ with
 | false =>
  rw [hm] at h4
  refine jC Tryz.func190 Tryz.ntmps190 (fun w0 β0 ext hβ=>?_)
  repeat (first|refine jS ?_|refine jD ?_|refine jB ?_|refine jV h1 ?_)
  rw [h10]
  repeat (first|refine jS ?_|refine jD ?_|refine jB ?_|refine jV h3 ?_|refine jV h2 ?_|refine jo rfl rfl (index_arr rfl rfl rfl rfl rfl (by decide) (by decide)) rfl rfl ?_|refine jV h4 ?_)
  exact jR
 | true =>
  rw [hm] at h4
  have hm2:=(Bool.and_eq_true _ _ ▸ (show (([a,b,c].take 3).all (fun k=>inn k 0 7)&&_)=true from hm)).1
  obtain ⟨ra,rb,rc⟩:=all_take3 (p:=fun k=>inn k 0 7) hm2
  have ra:=inn7 ra
  have rb:=inn7 rb
  have rc:=inn7 rc
  have h5:=lm_and { t with pc:=t.pc+1 } s ⟨7,a,b,c⟩ ra.1 ra.2 rb.1 rb.2 rc.1 rc.2
  unfold lwC at h5
  refine jC Tryz.func190 Tryz.ntmps190 (fun w0 β0 ext hβ=>?_)
  repeat (first|refine jS ?_|refine jD ?_|refine jB ?_|refine jV h1 ?_)
  rw [h10]
  repeat (first|refine jS ?_|refine jD ?_|refine jB ?_|refine jV h3 ?_|refine jV h2 ?_|refine jo rfl rfl (index_arr rfl rfl rfl rfl rfl (by decide) (by decide)) rfl rfl ?_|refine jV h4 ?_)
  rw [hw]
  repeat (first|refine jS ?_|refine jD ?_|refine jB ?_|refine jo rfl rfl (index_arr rfl rfl rfl rfl rfl (by decide) (by decide)) rfl rfl ?_)
  refine jBb [4] h5 ?_
  repeat (first|refine jS ?_|refine jD ?_|refine jB ?_)
  exact jR
theorem ap_8 (t:Thr) (s a b c:Int) (hf:t.frames.length≤1000) (hl:t.left.length≤1000000) (hr:loReady t s=0) (hp:0≤t.pc∧t.pc≤1000) (h10:(t.pc == 1000)=false) :
  ACalls Tryz.prog 190 [encThr t,iv s,.agg [iv 8,iv a,iv b,iv c]] [] (one (.tup [resThr (loGo s ⟨8,a,b,c⟩ t),iv (loGo s ⟨8,a,b,c⟩ t).2]) []):=by
 have h1:=ready_ok t s (by omega) hl
 rw [hr] at h1
 have h2:=lin_ok 8 1 15
 have h3:=all_ok
 have h4:ACalls Tryz.prog 227 [.agg [iv 3,iv (-1),fnA 260],.agg [iv 8,iv a,iv b,iv c]] [] (one (bv (loMay ⟨8,a,b,c⟩)) []):=lmay_ok 3 (-1) (fnA 260) ⟨8,a,b,c⟩ (by decide) (by decide) (.inr ⟨_,rfl⟩)
 have hw:IntKind.i64.wrap (t.pc+1)=t.pc+1:=by rw [wrap_id]<;>omega
 unfold loGo
 unfold encThr thCells at *
 cases hm:loMay ⟨8,a,b,c⟩ with
 | false =>
  rw [hm] at h4
  refine jC Tryz.func190 Tryz.ntmps190 (fun w0 β0 ext hβ=>?_)
  repeat (first|refine jS ?_|refine jD ?_|refine jB ?_|refine jV h1 ?_)
  rw [h10]
  repeat (first|refine jS ?_|refine jD ?_|refine jB ?_|refine jV h3 ?_|refine jV h2 ?_|refine jo rfl rfl (index_arr rfl rfl rfl rfl rfl (by decide) (by decide)) rfl rfl ?_|refine jV h4 ?_)
  exact jR
 | true =>
  rw [hm] at h4
  have hm2:=(Bool.and_eq_true _ _ ▸ (show (([a,b,c].take 3).all (fun k=>inn k 0 7)&&_)=true from hm)).1
  obtain ⟨ra,rb,rc⟩:=all_take3 (p:=fun k=>inn k 0 7) hm2
  have ra:=inn7 ra
  have rb:=inn7 rb
  have rc:=inn7 rc
  have h5:=lm_xor { t with pc:=t.pc+1 } s ⟨8,a,b,c⟩ ra.1 ra.2 rb.1 rb.2 rc.1 rc.2
  unfold lwC at h5
  refine jC Tryz.func190 Tryz.ntmps190 (fun w0 β0 ext hβ=>?_)
  repeat (first|refine jS ?_|refine jD ?_|refine jB ?_|refine jV h1 ?_)
  rw [h10]
  repeat (first|refine jS ?_|refine jD ?_|refine jB ?_|refine jV h3 ?_|refine jV h2 ?_|refine jo rfl rfl (index_arr rfl rfl rfl rfl rfl (by decide) (by decide)) rfl rfl ?_|refine jV h4 ?_)
  rw [hw]
  repeat (first|refine jS ?_|refine jD ?_|refine jB ?_|refine jo rfl rfl (index_arr rfl rfl rfl rfl rfl (by decide) (by decide)) rfl rfl ?_)
  refine jBb [4] h5 ?_
  repeat (first|refine jS ?_|refine jD ?_|refine jB ?_)
  exact jR
theorem ap_9 (t:Thr) (s a b c:Int) (hf:t.frames.length≤1000) (hl:t.left.length≤1000000) (hr:loReady t s=0) (hp:0≤t.pc∧t.pc≤1000) (h10:(t.pc == 1000)=false) :
  ACalls Tryz.prog 190 [encThr t,iv s,.agg [iv 9,iv a,iv b,iv c]] [] (one (.tup [resThr (loGo s ⟨9,a,b,c⟩ t),iv (loGo s ⟨9,a,b,c⟩ t).2]) []):=by
 have h1:=ready_ok t s (by omega) hl
 rw [hr] at h1
 have h2:=lin_ok 9 1 15
 have h3:=all_ok
 have h4:ACalls Tryz.prog 227 [.agg [iv 3,iv (-1),fnA 261],.agg [iv 9,iv a,iv b,iv c]] [] (one (bv (loMay ⟨9,a,b,c⟩)) []):=lmay_ok 3 (-1) (fnA 261) ⟨9,a,b,c⟩ (by decide) (by decide) (.inr ⟨_,rfl⟩)
 have hw:IntKind.i64.wrap (t.pc+1)=t.pc+1:=by rw [wrap_id]<;>omega
 unfold loGo
 unfold encThr thCells at *
 cases hm:loMay ⟨9,a,b,c⟩ with
 | false =>
  rw [hm] at h4
  refine jC Tryz.func190 Tryz.ntmps190 (fun w0 β0 ext hβ=>?_)
  repeat (first|refine jS ?_|refine jD ?_|refine jB ?_|refine jV h1 ?_)
  rw [h10]
  repeat (first|refine jS ?_|refine jD ?_|refine jB ?_|refine jV h3 ?_|refine jV h2 ?_|refine jo rfl rfl (index_arr rfl rfl rfl rfl rfl (by decide) (by decide)) rfl rfl ?_|refine jV h4 ?_)
  exact jR
 | true =>
  rw [hm] at h4
  have hm2:=(Bool.and_eq_true _ _ ▸ (show (([a,b,c].take 3).all (fun k=>inn k 0 7)&&_)=true from hm)).1
  obtain ⟨ra,rb,rc⟩:=all_take3 (p:=fun k=>inn k 0 7) hm2
  have ra:=inn7 ra
  have rb:=inn7 rb
  have rc:=inn7 rc
  have h5:=lm_less { t with pc:=t.pc+1 } s ⟨9,a,b,c⟩ ra.1 ra.2 rb.1 rb.2 rc.1 rc.2
  unfold lwC at h5
  refine jC Tryz.func190 Tryz.ntmps190 (fun w0 β0 ext hβ=>?_)
  repeat (first|refine jS ?_|refine jD ?_|refine jB ?_|refine jV h1 ?_)
  rw [h10]
  repeat (first|refine jS ?_|refine jD ?_|refine jB ?_|refine jV h3 ?_|refine jV h2 ?_|refine jo rfl rfl (index_arr rfl rfl rfl rfl rfl (by decide) (by decide)) rfl rfl ?_|refine jV h4 ?_)
  rw [hw]
  repeat (first|refine jS ?_|refine jD ?_|refine jB ?_|refine jo rfl rfl (index_arr rfl rfl rfl rfl rfl (by decide) (by decide)) rfl rfl ?_)
  refine jBb [4] h5 ?_
  repeat (first|refine jS ?_|refine jD ?_|refine jB ?_)
  exact jR
theorem ap_10 (t:Thr) (s a b c:Int) (hf:t.frames.length≤1000) (hl:t.left.length≤1000000) (hr:loReady t s=0) (hp:0≤t.pc∧t.pc≤1000) (h10:(t.pc == 1000)=false) :
  ACalls Tryz.prog 190 [encThr t,iv s,.agg [iv 10,iv a,iv b,iv c]] [] (one (.tup [resThr (loGo s ⟨10,a,b,c⟩ t),iv (loGo s ⟨10,a,b,c⟩ t).2]) []):=by
 have h1:=ready_ok t s (by omega) hl
 rw [hr] at h1
 have h2:=lin_ok 10 1 15
 have h3:=all_ok
 have h4:ACalls Tryz.prog 227 [.agg [iv 0,iv 0,fnA 262],.agg [iv 10,iv a,iv b,iv c]] [] (one (bv (loMay ⟨10,a,b,c⟩)) []):=lmay_ok 0 0 (fnA 262) ⟨10,a,b,c⟩ (by decide) (by decide) (.inr ⟨_,rfl⟩)
 have hw:IntKind.i64.wrap (t.pc+1)=t.pc+1:=by rw [wrap_id]<;>omega
 unfold loGo
 unfold encThr thCells at *
 cases hm:loMay ⟨10,a,b,c⟩ with
 | false =>
  rw [hm] at h4
  refine jC Tryz.func190 Tryz.ntmps190 (fun w0 β0 ext hβ=>?_)
  repeat (first|refine jS ?_|refine jD ?_|refine jB ?_|refine jV h1 ?_)
  rw [h10]
  repeat (first|refine jS ?_|refine jD ?_|refine jB ?_|refine jV h3 ?_|refine jV h2 ?_|refine jo rfl rfl (index_arr rfl rfl rfl rfl rfl (by decide) (by decide)) rfl rfl ?_|refine jV h4 ?_)
  exact jR
 | true =>
  rw [hm] at h4
  have h5:=lm_jump { t with pc:=t.pc+1 } s ⟨10,a,b,c⟩
  unfold lwC at h5
  refine jC Tryz.func190 Tryz.ntmps190 (fun w0 β0 ext hβ=>?_)
  repeat (first|refine jS ?_|refine jD ?_|refine jB ?_|refine jV h1 ?_)
  rw [h10]
  repeat (first|refine jS ?_|refine jD ?_|refine jB ?_|refine jV h3 ?_|refine jV h2 ?_|refine jo rfl rfl (index_arr rfl rfl rfl rfl rfl (by decide) (by decide)) rfl rfl ?_|refine jV h4 ?_)
  rw [hw]
  repeat (first|refine jS ?_|refine jD ?_|refine jB ?_|refine jo rfl rfl (index_arr rfl rfl rfl rfl rfl (by decide) (by decide)) rfl rfl ?_)
  refine jBb [4] h5 ?_
  repeat (first|refine jS ?_|refine jD ?_|refine jB ?_)
  exact jR
theorem ap_11 (t:Thr) (s a b c:Int) (hf:t.frames.length≤1000) (hl:t.left.length≤1000000) (hr:loReady t s=0) (hp:0≤t.pc∧t.pc≤1000) (h10:(t.pc == 1000)=false) :
  ACalls Tryz.prog 190 [encThr t,iv s,.agg [iv 11,iv a,iv b,iv c]] [] (one (.tup [resThr (loGo s ⟨11,a,b,c⟩ t),iv (loGo s ⟨11,a,b,c⟩ t).2]) []):=by
 have h1:=ready_ok t s (by omega) hl
 rw [hr] at h1
 have h2:=lin_ok 11 1 15
 have h3:=all_ok
 have h4:ACalls Tryz.prog 227 [.agg [iv 1,iv 1,fnA 263],.agg [iv 11,iv a,iv b,iv c]] [] (one (bv (loMay ⟨11,a,b,c⟩)) []):=lmay_ok 1 1 (fnA 263) ⟨11,a,b,c⟩ (by decide) (by decide) (.inr ⟨_,rfl⟩)
 have hw:IntKind.i64.wrap (t.pc+1)=t.pc+1:=by rw [wrap_id]<;>omega
 unfold loGo
 unfold encThr thCells at *
 cases hm:loMay ⟨11,a,b,c⟩ with
 | false =>
  rw [hm] at h4
  refine jC Tryz.func190 Tryz.ntmps190 (fun w0 β0 ext hβ=>?_)
  repeat (first|refine jS ?_|refine jD ?_|refine jB ?_|refine jV h1 ?_)
  rw [h10]
  repeat (first|refine jS ?_|refine jD ?_|refine jB ?_|refine jV h3 ?_|refine jV h2 ?_|refine jo rfl rfl (index_arr rfl rfl rfl rfl rfl (by decide) (by decide)) rfl rfl ?_|refine jV h4 ?_)
  exact jR
 | true =>
  rw [hm] at h4
  have hm2:=(Bool.and_eq_true _ _ ▸ (show (([a,b,c].take 1).all (fun k=>inn k 0 7)&&_)=true from hm)).1
  have ra:=inn7 (all_take1 (p:=fun k=>inn k 0 7) hm2)
  have h5:=lm_zero { t with pc:=t.pc+1 } s ⟨11,a,b,c⟩ ra.1 ra.2
  unfold lwC at h5
  refine jC Tryz.func190 Tryz.ntmps190 (fun w0 β0 ext hβ=>?_)
  repeat (first|refine jS ?_|refine jD ?_|refine jB ?_|refine jV h1 ?_)
  rw [h10]
  repeat (first|refine jS ?_|refine jD ?_|refine jB ?_|refine jV h3 ?_|refine jV h2 ?_|refine jo rfl rfl (index_arr rfl rfl rfl rfl rfl (by decide) (by decide)) rfl rfl ?_|refine jV h4 ?_)
  rw [hw]
  repeat (first|refine jS ?_|refine jD ?_|refine jB ?_|refine jo rfl rfl (index_arr rfl rfl rfl rfl rfl (by decide) (by decide)) rfl rfl ?_)
  refine jBb [4] h5 ?_
  repeat (first|refine jS ?_|refine jD ?_|refine jB ?_)
  exact jR
theorem ap_12 (t:Thr) (s a b c:Int) (hf:t.frames.length≤1000) (hl:t.left.length≤1000000) (hr:loReady t s=0) (hp:0≤t.pc∧t.pc≤1000) (h10:(t.pc == 1000)=false) :
  ACalls Tryz.prog 190 [encThr t,iv s,.agg [iv 12,iv a,iv b,iv c]] [] (one (.tup [resThr (loGo s ⟨12,a,b,c⟩ t),iv (loGo s ⟨12,a,b,c⟩ t).2]) []):=by
 have h1:=ready_ok t s (by omega) hl
 rw [hr] at h1
 have h2:=lin_ok 12 1 15
 have h3:=all_ok
 have h4:ACalls Tryz.prog 227 [.agg [iv 1,iv 1,fnA 264],.agg [iv 12,iv a,iv b,iv c]] [] (one (bv (loMay ⟨12,a,b,c⟩)) []):=lmay_ok 1 1 (fnA 264) ⟨12,a,b,c⟩ (by decide) (by decide) (.inr ⟨_,rfl⟩)
 have hw:IntKind.i64.wrap (t.pc+1)=t.pc+1:=by rw [wrap_id]<;>omega
 unfold loGo
 unfold encThr thCells at *
 cases hm:loMay ⟨12,a,b,c⟩ with
 | false =>
  rw [hm] at h4
  refine jC Tryz.func190 Tryz.ntmps190 (fun w0 β0 ext hβ=>?_)
  repeat (first|refine jS ?_|refine jD ?_|refine jB ?_|refine jV h1 ?_)
  rw [h10]
  repeat (first|refine jS ?_|refine jD ?_|refine jB ?_|refine jV h3 ?_|refine jV h2 ?_|refine jo rfl rfl (index_arr rfl rfl rfl rfl rfl (by decide) (by decide)) rfl rfl ?_|refine jV h4 ?_)
  exact jR
 | true =>
  rw [hm] at h4
  have hm2:=(Bool.and_eq_true _ _ ▸ (show (([a,b,c].take 1).all (fun k=>inn k 0 7)&&_)=true from hm)).1
  have ra:=inn7 (all_take1 (p:=fun k=>inn k 0 7) hm2)
  have h5:=lm_some { t with pc:=t.pc+1 } s ⟨12,a,b,c⟩ ra.1 ra.2
  unfold lwC at h5
  refine jC Tryz.func190 Tryz.ntmps190 (fun w0 β0 ext hβ=>?_)
  repeat (first|refine jS ?_|refine jD ?_|refine jB ?_|refine jV h1 ?_)
  rw [h10]
  repeat (first|refine jS ?_|refine jD ?_|refine jB ?_|refine jV h3 ?_|refine jV h2 ?_|refine jo rfl rfl (index_arr rfl rfl rfl rfl rfl (by decide) (by decide)) rfl rfl ?_|refine jV h4 ?_)
  rw [hw]
  repeat (first|refine jS ?_|refine jD ?_|refine jB ?_|refine jo rfl rfl (index_arr rfl rfl rfl rfl rfl (by decide) (by decide)) rfl rfl ?_)
  refine jBb [4] h5 ?_
  repeat (first|refine jS ?_|refine jD ?_|refine jB ?_)
  exact jR
theorem ap_13 (t:Thr) (s a b c:Int) (hf:t.frames.length≤1000) (hl:t.left.length≤1000000) (hr:loReady t s=0) (hp:0≤t.pc∧t.pc≤1000) (h10:(t.pc == 1000)=false) :
  ACalls Tryz.prog 190 [encThr t,iv s,.agg [iv 13,iv a,iv b,iv c]] [] (one (.tup [resThr (loGo s ⟨13,a,b,c⟩ t),iv (loGo s ⟨13,a,b,c⟩ t).2]) []):=by
 have h1:=ready_ok t s (by omega) hl
 rw [hr] at h1
 have h2:=lin_ok 13 1 15
 have h3:=all_ok
 have h4:ACalls Tryz.prog 227 [.agg [iv 0,iv 0,.v .nilFunc],.agg [iv 13,iv a,iv b,iv c]] [] (one (bv (loMay ⟨13,a,b,c⟩)) []):=lmay_ok 0 0 (.v .nilFunc) ⟨13,a,b,c⟩ (by decide) (by decide) (.inl rfl)
 have hw:IntKind.i64.wrap (t.pc+1)=t.pc+1:=by rw [wrap_id]<;>omega
 unfold loGo
 have h5:=call_ok t a hf hl
 unfold encThr thCells at *
 cases hm:loMay ⟨13,a,b,c⟩ with
 | false =>
  rw [hm] at h4
  refine jC Tryz.func190 Tryz.ntmps190 (fun w0 β0 ext hβ=>?_)
  repeat (first|refine jS ?_|refine jD ?_|refine jB ?_|refine jV h1 ?_)
  rw [h10]
  repeat (first|refine jS ?_|refine jD ?_|refine jB ?_|refine jV h3 ?_|refine jV h2 ?_|refine jo rfl rfl (index_arr rfl rfl rfl rfl rfl (by decide) (by decide)) rfl rfl ?_|refine jV h4 ?_)
  exact jR
 | true =>
  rw [hm] at h4
  have hp2:∀ p:Thr × Int,p=frCall t a→ACalls Tryz.prog 190 [.agg (thCells t),iv s,.agg [iv 13,iv a,iv b,iv c]] [] (one (.tup [resThr p,iv p.2]) []):=fun p hp=>by
   rw [←hp] at h5
   obtain ⟨p1,e⟩:=p
   unfold thCells at *
   cases he:decide (e=0) with
   | true =>
    have hres:resThr (p1,e)=encThr p1:=by unfold resThr;rw [he];rfl
    rw [hres] at h5 ⊢
    unfold encThr thCells at *
    refine jC Tryz.func190 Tryz.ntmps190 (fun w0 β0 ext hβ=>?_)
    repeat (first|refine jS ?_|refine jD ?_|refine jB ?_|refine jV h1 ?_)
    rw [h10]
    repeat (first|refine jS ?_|refine jD ?_|refine jB ?_|refine jV h3 ?_|refine jV h2 ?_|refine jo rfl rfl (index_arr rfl rfl rfl rfl rfl (by decide) (by decide)) rfl rfl ?_|refine jV h4 ?_|refine jV h5 ?_)
    exact jR
   | false =>
    have hres:resThr (p1,e)=thrE0:=by unfold resThr;rw [he];rfl
    rw [hres] at h5 ⊢
    unfold thrE0 at *
    refine jC Tryz.func190 Tryz.ntmps190 (fun w0 β0 ext hβ=>?_)
    repeat (first|refine jS ?_|refine jD ?_|refine jB ?_|refine jV h1 ?_)
    rw [h10]
    repeat (first|refine jS ?_|refine jD ?_|refine jB ?_|refine jV h3 ?_|refine jV h2 ?_|refine jo rfl rfl (index_arr rfl rfl rfl rfl rfl (by decide) (by decide)) rfl rfl ?_|refine jV h4 ?_|refine jV h5 ?_)
    exact jR
  exact hp2 _ rfl
theorem ap_14 (t:Thr) (s a b c:Int) (hf:t.frames.length≤1000) (hl:t.left.length≤1000000) (hr:loReady t s=0) (hp:0≤t.pc∧t.pc≤1000) (h10:(t.pc == 1000)=false) :
  ACalls Tryz.prog 190 [encThr t,iv s,.agg [iv 14,iv a,iv b,iv c]] [] (one (.tup [resThr (loGo s ⟨14,a,b,c⟩ t),iv (loGo s ⟨14,a,b,c⟩ t).2]) []):=by
 have h1:=ready_ok t s (by omega) hl
 rw [hr] at h1
 have h2:=lin_ok 14 1 15
 have h3:=all_ok
 have h4:ACalls Tryz.prog 227 [.agg [iv 0,iv (-1),.v .nilFunc],.agg [iv 14,iv a,iv b,iv c]] [] (one (bv (loMay ⟨14,a,b,c⟩)) []):=lmay_ok 0 (-1) (.v .nilFunc) ⟨14,a,b,c⟩ (by decide) (by decide) (.inl rfl)
 have hw:IntKind.i64.wrap (t.pc+1)=t.pc+1:=by rw [wrap_id]<;>omega
 unfold loGo
 have h5:=back_ok t hf hl
 unfold encThr thCells at *
 cases hm:loMay ⟨14,a,b,c⟩ with
 | false =>
  rw [hm] at h4
  refine jC Tryz.func190 Tryz.ntmps190 (fun w0 β0 ext hβ=>?_)
  repeat (first|refine jS ?_|refine jD ?_|refine jB ?_|refine jV h1 ?_)
  rw [h10]
  repeat (first|refine jS ?_|refine jD ?_|refine jB ?_|refine jV h3 ?_|refine jV h2 ?_|refine jo rfl rfl (index_arr rfl rfl rfl rfl rfl (by decide) (by decide)) rfl rfl ?_|refine jV h4 ?_)
  exact jR
 | true =>
  rw [hm] at h4
  have hp2:∀ p:Thr × Int,p=frBack t→ACalls Tryz.prog 190 [.agg (thCells t),iv s,.agg [iv 14,iv a,iv b,iv c]] [] (one (.tup [resThr p,iv p.2]) []):=fun p hp=>by
   rw [←hp] at h5
   obtain ⟨p1,e⟩:=p
   unfold thCells at *
   cases he:decide (e=0) with
   | true =>
    have hres:resThr (p1,e)=encThr p1:=by unfold resThr;rw [he];rfl
    rw [hres] at h5 ⊢
    unfold encThr thCells at *
    refine jC Tryz.func190 Tryz.ntmps190 (fun w0 β0 ext hβ=>?_)
    repeat (first|refine jS ?_|refine jD ?_|refine jB ?_|refine jV h1 ?_)
    rw [h10]
    repeat (first|refine jS ?_|refine jD ?_|refine jB ?_|refine jV h3 ?_|refine jV h2 ?_|refine jo rfl rfl (index_arr rfl rfl rfl rfl rfl (by decide) (by decide)) rfl rfl ?_|refine jV h4 ?_|refine jV h5 ?_)
    exact jR
   | false =>
    have hres:resThr (p1,e)=thrE0:=by unfold resThr;rw [he];rfl
    rw [hres] at h5 ⊢
    unfold thrE0 at *
    refine jC Tryz.func190 Tryz.ntmps190 (fun w0 β0 ext hβ=>?_)
    repeat (first|refine jS ?_|refine jD ?_|refine jB ?_|refine jV h1 ?_)
    rw [h10]
    repeat (first|refine jS ?_|refine jD ?_|refine jB ?_|refine jV h3 ?_|refine jV h2 ?_|refine jo rfl rfl (index_arr rfl rfl rfl rfl rfl (by decide) (by decide)) rfl rfl ?_|refine jV h4 ?_|refine jV h5 ?_)
    exact jR
  exact hp2 _ rfl
theorem ap_15 (t:Thr) (s a b c:Int) (hf:t.frames.length≤1000) (hl:t.left.length≤1000000) (hr:loReady t s=0) (hp:0≤t.pc∧t.pc≤1000) (h10:(t.pc == 1000)=false) :
  ACalls Tryz.prog 190 [encThr t,iv s,.agg [iv 15,iv a,iv b,iv c]] [] (one (.tup [resThr (loGo s ⟨15,a,b,c⟩ t),iv (loGo s ⟨15,a,b,c⟩ t).2]) []):=by
 have h1:=ready_ok t s (by omega) hl
 rw [hr] at h1
 have h2:=lin_ok 15 1 15
 have h3:=all_ok
 have h4:ACalls Tryz.prog 227 [.agg [iv 1,iv (-1),fnA 265],.agg [iv 15,iv a,iv b,iv c]] [] (one (bv (loMay ⟨15,a,b,c⟩)) []):=lmay_ok 1 (-1) (fnA 265) ⟨15,a,b,c⟩ (by decide) (by decide) (.inr ⟨_,rfl⟩)
 have hw:IntKind.i64.wrap (t.pc+1)=t.pc+1:=by rw [wrap_id]<;>omega
 unfold loGo
 unfold encThr thCells at *
 cases hm:loMay ⟨15,a,b,c⟩ with
 | false =>
  rw [hm] at h4
  refine jC Tryz.func190 Tryz.ntmps190 (fun w0 β0 ext hβ=>?_)
  repeat (first|refine jS ?_|refine jD ?_|refine jB ?_|refine jV h1 ?_)
  rw [h10]
  repeat (first|refine jS ?_|refine jD ?_|refine jB ?_|refine jV h3 ?_|refine jV h2 ?_|refine jo rfl rfl (index_arr rfl rfl rfl rfl rfl (by decide) (by decide)) rfl rfl ?_|refine jV h4 ?_)
  exact jR
 | true =>
  rw [hm] at h4
  have hm2:=(Bool.and_eq_true _ _ ▸ (show (([a,b,c].take 1).all (fun k=>inn k 0 7)&&_)=true from hm)).1
  have ra:=inn7 (all_take1 (p:=fun k=>inn k 0 7) hm2)
  have h5:=lm_who { t with pc:=t.pc+1 } s ⟨15,a,b,c⟩ ra.1 ra.2
  unfold lwC at h5
  refine jC Tryz.func190 Tryz.ntmps190 (fun w0 β0 ext hβ=>?_)
  repeat (first|refine jS ?_|refine jD ?_|refine jB ?_|refine jV h1 ?_)
  rw [h10]
  repeat (first|refine jS ?_|refine jD ?_|refine jB ?_|refine jV h3 ?_|refine jV h2 ?_|refine jo rfl rfl (index_arr rfl rfl rfl rfl rfl (by decide) (by decide)) rfl rfl ?_|refine jV h4 ?_)
  rw [hw]
  repeat (first|refine jS ?_|refine jD ?_|refine jB ?_|refine jo rfl rfl (index_arr rfl rfl rfl rfl rfl (by decide) (by decide)) rfl rfl ?_)
  refine jBb [4] h5 ?_
  repeat (first|refine jS ?_|refine jD ?_|refine jB ?_)
  exact jR
theorem apply_ok (t:Thr) (s:Int) (i:Ins) (hf:t.frames.length≤1000) (hl:t.left.length≤1000000):ACalls Tryz.prog 190 [encThr t,iv s,encIns i] [] (one (.tup [resThr (loApply s i t),iv (loApply s i t).2]) []):=by
 have h1:=ready_ok t s (by omega) hl
 have h2:=lin_ok i.op 1 15
 have h3:=all_ok
 have e1:(t.pc == 1000)=decide (t.pc=1000):=rfl
 unfold loApply
 rcases loReady_of t s with hr|hr|⟨hr,hth⟩
 ·rw [hr] at h1 ⊢
  unfold encIns at *
  unfold encThr thCells at *
  refine jC Tryz.func190 Tryz.ntmps190 (fun w0 β0 ext hβ=>?_)
  repeat (first|refine jS ?_|refine jD ?_|refine jB ?_|refine jV h1 ?_)
  exact jR
 ·rw [hr] at h1 ⊢
  unfold encIns at *
  unfold encThr thCells at *
  cases he:decide (t.pc=1000)
  all_goals (
   rw [he] at e1
   refine jC Tryz.func190 Tryz.ntmps190 (fun w0 β0 ext hβ=>?_)
   repeat (first|refine jS ?_|refine jD ?_|refine jB ?_|refine jV h1 ?_)
   rw [e1]
   repeat (first|refine jS ?_|refine jD ?_|refine jB ?_|refine jV h3 ?_)
  )
  all_goals exact jR
 ·have hp:=thRight_pc hth
  cases he:decide (t.pc=1000) with
  | true =>
   rw [hr] at h1 ⊢
   rw [he] at e1
   unfold encIns at *
   unfold encThr thCells at *
   refine jC Tryz.func190 Tryz.ntmps190 (fun w0 β0 ext hβ=>?_)
   repeat (first|refine jS ?_|refine jD ?_|refine jB ?_|refine jV h1 ?_)
   rw [e1]
   repeat (first|refine jS ?_|refine jD ?_|refine jB ?_)
   exact jR
  | false =>
   rw [he] at e1
   cases hi:inn i.op 1 15 with
   | false =>
    rw [hr] at h1 ⊢
    rw [hi] at h2
    unfold encIns at *
    unfold encThr thCells at *
    refine jC Tryz.func190 Tryz.ntmps190 (fun w0 β0 ext hβ=>?_)
    repeat (first|refine jS ?_|refine jD ?_|refine jB ?_|refine jV h1 ?_)
    rw [e1]
    repeat (first|refine jS ?_|refine jD ?_|refine jB ?_|refine jV h3 ?_|refine jV h2 ?_)
    exact jR
   | true =>
    rw [hr]
    obtain ⟨op,a,b,c⟩:=i
    simp only at hi
    rcases inn15 hi with rfl|rfl|rfl|rfl|rfl|rfl|rfl|rfl|rfl|rfl|rfl|rfl|rfl|rfl|rfl
    ·exact ap_1 t s a b c hf hl hr hp e1
    ·exact ap_2 t s a b c hf hl hr hp e1
    ·exact ap_3 t s a b c hf hl hr hp e1
    ·exact ap_4 t s a b c hf hl hr hp e1
    ·exact ap_5 t s a b c hf hl hr hp e1
    ·exact ap_6 t s a b c hf hl hr hp e1
    ·exact ap_7 t s a b c hf hl hr hp e1
    ·exact ap_8 t s a b c hf hl hr hp e1
    ·exact ap_9 t s a b c hf hl hr hp e1
    ·exact ap_10 t s a b c hf hl hr hp e1
    ·exact ap_11 t s a b c hf hl hr hp e1
    ·exact ap_12 t s a b c hf hl hr hp e1
    ·exact ap_13 t s a b c hf hl hr hp e1
    ·exact ap_14 t s a b c hf hl hr hp e1
    ·exact ap_15 t s a b c hf hl hr hp e1
end Go.AL
end
section
set_option maxRecDepth 100000
namespace Go.AL
open Go Go.Proofs
attribute [local irreducible] J
def fltA (e:Int):AVal:=.ifc 279 (.agg [iv e])
theorem must_ok:ACalls Tryz.prog 151 [iv 0] [] (one (.tup []) []):=by
 refine jC Tryz.func151 Tryz.ntmps151 (fun w0 β0 ext hβ=>?_)
 repeat (first|refine jS ?_|refine jD ?_|refine jB ?_)
 exact jend [] true rfl rfl rfl ⟨rfl,rfl⟩
theorem must_pan (e:Int) (he:e≠0):ACalls Tryz.prog 151 [iv e] [] (onep (fltA e) []):=by
 have h:(e != 0)=true:=by rw [bne_iff_ne];exact he
 refine jC Tryz.func151 Tryz.ntmps151 (fun w0 β0 ext hβ=>?_)
 repeat (first|refine jS ?_|refine jD ?_|refine jB ?_)
 rw [h]
 repeat (first|refine jS ?_|refine jD ?_|refine jB ?_)
 refine jpan rfl rfl rfl rfl ?_
 exact qpan [] true rfl rfl rfl rfl
def swC (w : Wd) (k : Int) (t : Thr) (i : Ins) : List AVal :=
  [.sl (w.code.map encIns), .sl (w.tso.mem.words.map iv), .sl (w.tso.mem.tags.map iv), iv w.tso.depth, .sl (w.tso.bufs.map encBuf), .sl (w.thr.map encThr), .sl (w.evs.map encEvt), iv k,
   iv t.pc, iv (g0 t.regs 0), iv (g0 t.regs 1), iv (g0 t.regs 2), iv (g0 t.regs 3), iv (g0 t.regs 4), iv (g0 t.regs 5), iv (g0 t.regs 6), iv (g0 t.regs 7), .sl (t.frames.map encFrm), iv t.state, iv t.fault, .slz (t.left.map iv), iv i.op, iv i.a, iv i.b, iv i.c]
def swH (w:Wd) (k:Int) (t:Thr) (i:Ins):List AObj:=[.box 233 (swC w k t i)]
theorem sw_get (w:Wd) (k:Int) (t:Thr) (i:Ins) {q:Int} (h0:0≤q) (h8:q < 8):takeA ty3 (swC w k t i) (8+1+q.toNat*ty3.size)=some (iv (rg t q)):=by
 rcases eight h0 h8 with rfl|rfl|rfl|rfl|rfl|rfl|rfl|rfl<;>rfl
theorem sw_set (w:Wd) (k:Int) (t:Thr) (i:Ins) (v:Int) {q:Int} (h0:0≤q) (h8:q < 8):spliceA (swC w k t i) (8+1+q.toNat*ty3.size) [iv v]=swC w k (setR t q v) i:=by
 rcases eight h0 h8 with rfl|rfl|rfl|rfl|rfl|rfl|rfl|rfl<;>rfl
theorem put_ok (w:Wd) (k:Nat) (t:Thr) (i:Ins) (hk:k < w.thr.length) (hl:w.thr.length≤8) :
  ACalls Tryz.prog 189 [.ptr 0 0] (swH w k t i) (one (.tup []) (swH (setT w k t) k t i)):=by
 have hc:=clone_thr w.thr (by intro e;rw [e] at hk;simp at hk) (by omega)
 unfold swH swC setT
 simp only
 refine jC Tryz.func189 Tryz.ntmps189 (fun w0 β0 ext hβ=>?_)
 repeat (first|refine jS ?_|refine jD ?_|refine jB ?_)
 refine jBb [] hc ?_
 repeat (first|refine jS ?_|refine jB ?_)
 refine jdrawPT [(0,.p),(1,.p),(2,.p),(3,.p),(4,.r),(5,.p),(6,.p),(7,.p),(8,.r),(9,.p),(10,.p),(11,.p),(12,.r),(13,.s),(14,.m)] rfl (by kernel_rfl) ?_
 repeat (first|refine jS ?_|refine jD ?_|refine jB ?_)
 refine jo rfl rfl (index_own (xs:=w.thr.map encThr) (n:=(k:Int)) rfl rfl rfl rfl rfl rfl (by omega) (by simp;omega)) rfl rfl ?_
 refine jo rfl rfl (store_enc (enc:=encThr) (l:=w.thr) (l':=w.thr.set k t) rfl rfl rfl (map_at (by omega)) rfl rfl rfl rfl rfl (Nat.le_of_ble_eq_true rfl) (.inl ⟨_,rfl⟩) (put_at (enc:=encThr) rfl) rfl) rfl rfl ?_
 repeat (first|refine jS ?_|refine jD ?_|refine jB ?_)
 exact jend [] true rfl rfl rfl ⟨rfl,rfl⟩
theorem sload_ok (w:Wd) (k:Nat) (t:Thr) (i:Ins) (h:TsR w.tso) (hk:k < w.tso.bufs.length) (a0:0≤i.a) (a8:i.a < 8) (b0:0≤i.b) (b8:i.b < 8)
  (he:(tsLoad w.tso k (IntKind.i64.wrap (rg t i.b+i.c))).2=0) :
  ACalls Tryz.prog 191 [.ptr 0 0] (swH w k t i) (one (.tup []) (swH w k (setR t i.a (tsLoad w.tso k (IntKind.i64.wrap (rg t i.b+i.c))).1) i)):=by
 have h1:=tload_ok w.tso k (IntKind.i64.wrap (rg t i.b+i.c)) h hk
 have h2:=must_ok
 rw [he] at h1
 generalize (tsLoad w.tso k (IntKind.i64.wrap (rg t i.b+i.c))).1=v at *
 have hg:=sw_get w k t i b0 b8
 have hs:=sw_set w k t i v a0 a8
 have hle:8+1+i.a.toNat*ty3.size+1≤25:=by show 8+1+i.a.toNat*1+1≤25;omega
 unfold encTso tCells ivs at h1
 unfold swH
 unfold swC at *
 refine jC Tryz.func191 Tryz.ntmps191 (fun w0 β0 ext hβ=>?_)
 repeat (first|refine jS ?_|refine jD ?_|refine jB ?_|refine jo rfl rfl (index_arr rfl rfl rfl rfl rfl b0 b8) rfl rfl ?_|refine jo rfl rfl (load_dsem (r:=ty3) rfl rfl rfl hg) rfl rfl ?_|refine jV h1 ?_|refine jV h2 ?_|refine jo rfl rfl (index_arr rfl rfl rfl rfl rfl a0 a8) rfl rfl ?_|refine jo rfl rfl (store_box (r':=ty3) (v:=iv v) rfl rfl rfl rfl rfl rfl hle hs) rfl rfl ?_)
 exact jend [] true rfl rfl rfl ⟨rfl,rfl⟩
theorem sload_pan (w:Wd) (k:Nat) (t:Thr) (i:Ins) (h:TsR w.tso) (hk:k < w.tso.bufs.length) (a0:0≤i.a) (a8:i.a < 8) (b0:0≤i.b) (b8:i.b < 8)
  (he:(tsLoad w.tso k (IntKind.i64.wrap (rg t i.b+i.c))).2≠0) :
  ACalls Tryz.prog 191 [.ptr 0 0] (swH w k t i) (onep (fltA (tsLoad w.tso k (IntKind.i64.wrap (rg t i.b+i.c))).2) (swH w k t i)):=by
 have h1:=tload_ok w.tso k (IntKind.i64.wrap (rg t i.b+i.c)) h hk
 have h2:=must_pan _ he
 generalize tsLoad w.tso k (IntKind.i64.wrap (rg t i.b+i.c))=v at *
 obtain ⟨v,e⟩:=v
 simp only at *
 have hg:=sw_get w k t i b0 b8
 unfold encTso tCells ivs at h1
 unfold swH
 unfold swC at *
 refine jC Tryz.func191 Tryz.ntmps191 (fun w0 β0 ext hβ=>?_)
 repeat (first|refine jS ?_|refine jD ?_|refine jB ?_|refine jo rfl rfl (index_arr rfl rfl rfl rfl rfl b0 b8) rfl rfl ?_|refine jo rfl rfl (load_dsem (r:=ty3) rfl rfl rfl hg) rfl rfl ?_|refine jV h1 ?_)
 refine jbp [] h2 rfl rfl rfl ⟨rfl,rfl,rfl,rfl,rfl,rfl⟩ rfl rfl rfl ?_
 exact qpan [] true rfl rfl rfl rfl
theorem sstore_ok (w:Wd) (k:Nat) (t:Thr) (i:Ins) (h:TsR w.tso) (hk:k < w.tso.bufs.length) (a0:0≤i.a) (a8:i.a < 8) (b0:0≤i.b) (b8:i.b < 8)
  (he:(tsStore w.tso k (IntKind.i64.wrap (rg t i.b+i.c)) (rg t i.a)).2=0) :
  ACalls Tryz.prog 192 [.ptr 0 0] (swH w k t i) (one (.tup []) (swH { w with tso:=(tsStore w.tso k (IntKind.i64.wrap (rg t i.b+i.c)) (rg t i.a)).1 } k t i)):=by
 have h1:=tstore_ok w.tso k (IntKind.i64.wrap (rg t i.b+i.c)) (rg t i.a) h hk
 have h2:=must_ok
 rw [he] at h1
 generalize (tsStore w.tso k (IntKind.i64.wrap (rg t i.b+i.c)) (rg t i.a)).1=v at *
 have hg:=sw_get w k t i b0 b8
 have hg2:=sw_get w k t i a0 a8
 unfold encTso tCells ivs at h1
 unfold swH
 unfold swC at *
 refine jC Tryz.func192 Tryz.ntmps192 (fun w0 β0 ext hβ=>?_)
 repeat (first|refine jS ?_|refine jD ?_|refine jB ?_|refine jo rfl rfl (index_arr rfl rfl rfl rfl rfl b0 b8) rfl rfl ?_|refine jo rfl rfl (load_dsem (r:=ty3) rfl rfl rfl hg) rfl rfl ?_|refine jo rfl rfl (index_arr rfl rfl rfl rfl rfl a0 a8) rfl rfl ?_|refine jo rfl rfl (load_dsem (r:=ty3) rfl rfl rfl hg2) rfl rfl ?_|refine jV h1 ?_|refine jV h2 ?_)
 exact jend [] true rfl rfl rfl ⟨rfl,rfl⟩
theorem sstore_pan (w:Wd) (k:Nat) (t:Thr) (i:Ins) (h:TsR w.tso) (hk:k < w.tso.bufs.length) (a0:0≤i.a) (a8:i.a < 8) (b0:0≤i.b) (b8:i.b < 8)
  (he:(tsStore w.tso k (IntKind.i64.wrap (rg t i.b+i.c)) (rg t i.a)).2≠0) :
  ACalls Tryz.prog 192 [.ptr 0 0] (swH w k t i) (onep (fltA (tsStore w.tso k (IntKind.i64.wrap (rg t i.b+i.c)) (rg t i.a)).2) (swH w k t i)):=by
 have h1:=tstore_ok w.tso k (IntKind.i64.wrap (rg t i.b+i.c)) (rg t i.a) h hk
 have h2:=must_pan _ he
 generalize tsStore w.tso k (IntKind.i64.wrap (rg t i.b+i.c)) (rg t i.a)=v at *
 obtain ⟨v,e⟩:=v
 simp only at *
 have hg:=sw_get w k t i b0 b8
 have hg2:=sw_get w k t i a0 a8
 unfold encTso tCells ivs at h1
 unfold swH
 unfold swC at *
 refine jC Tryz.func192 Tryz.ntmps192 (fun w0 β0 ext hβ=>?_)
 repeat (first|refine jS ?_|refine jD ?_|refine jB ?_|refine jo rfl rfl (index_arr rfl rfl rfl rfl rfl b0 b8) rfl rfl ?_|refine jo rfl rfl (load_dsem (r:=ty3) rfl rfl rfl hg) rfl rfl ?_|refine jo rfl rfl (index_arr rfl rfl rfl rfl rfl a0 a8) rfl rfl ?_|refine jo rfl rfl (load_dsem (r:=ty3) rfl rfl rfl hg2) rfl rfl ?_|refine jV h1 ?_)
 refine jbp [] h2 rfl rfl rfl ⟨rfl,rfl,rfl,rfl,rfl,rfl⟩ rfl rfl rfl ?_
 exact qpan [] true rfl rfl rfl rfl
theorem smark_ok (w:Wd) (k:Nat) (t:Thr) (i:Ins) (tag:Int) (h:TsR w.tso) (htg:tag=1∨tag=2) (a0:0≤i.a) (a8:i.a < 8) (b0:0≤i.b) (b8:i.b < 8) (he:(mMark w.tso.mem (rg t i.a) (rg t i.b) tag).2=0) :
  ACalls Tryz.prog 195 [.ptr 0 0,iv tag] (swH w k t i) (one (.tup []) (swH { w with tso:={ w.tso with mem:=(mMark w.tso.mem (rg t i.a) (rg t i.b) tag).1 } } k t i)):=by
 have h1:=mark_ok w.tso.mem (rg t i.a) (rg t i.b) tag h.mem htg
 have h2:=must_ok
 rw [he] at h1
 generalize (mMark w.tso.mem (rg t i.a) (rg t i.b) tag).1=v at *
 have hg:=sw_get w k t i b0 b8
 have hg2:=sw_get w k t i a0 a8
 unfold encMem mCells ivs at h1
 unfold swH
 unfold swC at *
 refine jC Tryz.func195 Tryz.ntmps195 (fun w0 β0 ext hβ=>?_)
 repeat (first|refine jS ?_|refine jD ?_|refine jB ?_|refine jo rfl rfl (index_arr rfl rfl rfl rfl rfl b0 b8) rfl rfl ?_|refine jo rfl rfl (load_dsem (r:=ty3) rfl rfl rfl hg) rfl rfl ?_|refine jo rfl rfl (index_arr rfl rfl rfl rfl rfl a0 a8) rfl rfl ?_|refine jo rfl rfl (load_dsem (r:=ty3) rfl rfl rfl hg2) rfl rfl ?_|refine jV h1 ?_|refine jV h2 ?_)
 exact jend [] true rfl rfl rfl ⟨rfl,rfl⟩
theorem smark_pan (w:Wd) (k:Nat) (t:Thr) (i:Ins) (tag:Int) (h:TsR w.tso) (htg:tag=1∨tag=2) (a0:0≤i.a) (a8:i.a < 8) (b0:0≤i.b) (b8:i.b < 8) (he:(mMark w.tso.mem (rg t i.a) (rg t i.b) tag).2≠0) :
  ACalls Tryz.prog 195 [.ptr 0 0,iv tag] (swH w k t i) (onep (fltA (mMark w.tso.mem (rg t i.a) (rg t i.b) tag).2) (swH w k t i)):=by
 have h1:=mark_ok w.tso.mem (rg t i.a) (rg t i.b) tag h.mem htg
 have h2:=must_pan _ he
 generalize mMark w.tso.mem (rg t i.a) (rg t i.b) tag=v at *
 obtain ⟨v,e⟩:=v
 simp only at *
 have hg:=sw_get w k t i b0 b8
 have hg2:=sw_get w k t i a0 a8
 unfold encMem mCells ivs at h1
 unfold swH
 unfold swC at *
 refine jC Tryz.func195 Tryz.ntmps195 (fun w0 β0 ext hβ=>?_)
 repeat (first|refine jS ?_|refine jD ?_|refine jB ?_|refine jo rfl rfl (index_arr rfl rfl rfl rfl rfl b0 b8) rfl rfl ?_|refine jo rfl rfl (load_dsem (r:=ty3) rfl rfl rfl hg) rfl rfl ?_|refine jo rfl rfl (index_arr rfl rfl rfl rfl rfl a0 a8) rfl rfl ?_|refine jo rfl rfl (load_dsem (r:=ty3) rfl rfl rfl hg2) rfl rfl ?_|refine jV h1 ?_)
 refine jbp [] h2 rfl rfl rfl ⟨rfl,rfl,rfl,rfl,rfl,rfl⟩ rfl rfl rfl ?_
 exact qpan [] true rfl rfl rfl rfl
theorem slocked_ok (w:Wd) (k:Nat) (t:Thr) (i:Ins) (kd y:Int) (h:TsR w.tso) (hk:k < w.tso.bufs.length) (hkd:kd=0∨kd=1∨kd=2) (a0:0≤i.a) (a8:i.a < 8) (b0:0≤i.b) (b8:i.b < 8)
  (he:(tsLocked w.tso k kd (rg t i.b) (rg t i.a) y).2.2=0) :
  ACalls Tryz.prog 193 [.ptr 0 0,iv kd,iv y] (swH w k t i)
   (one (.tup []) (swH { w with tso:=(tsLocked w.tso k kd (rg t i.b) (rg t i.a) y).1 } k (setR t i.a (tsLocked w.tso k kd (rg t i.b) (rg t i.a) y).2.1) i)):=by
 have h1:=locked_ok w.tso k kd (rg t i.b) (rg t i.a) y h hk hkd
 have h2:=must_ok
 rw [he] at h1
 generalize (tsLocked w.tso k kd (rg t i.b) (rg t i.a) y).1=ts at *
 generalize (tsLocked w.tso k kd (rg t i.b) (rg t i.a) y).2.1=v at *
 have hg:=sw_get w k t i b0 b8
 have hg2:=sw_get w k t i a0 a8
 have hs:=sw_set { w with tso:=ts } k t i v a0 a8
 have hle:8+1+i.a.toNat*ty3.size+1≤25:=by show 8+1+i.a.toNat*1+1≤25;omega
 unfold encTso tCells ivs at h1
 unfold swH
 unfold swC at *
 refine jC Tryz.func193 Tryz.ntmps193 (fun w0 β0 ext hβ=>?_)
 repeat (first|refine jS ?_|refine jD ?_|refine jB ?_|refine jo rfl rfl (index_arr rfl rfl rfl rfl rfl b0 b8) rfl rfl ?_|refine jo rfl rfl (load_dsem (r:=ty3) rfl rfl rfl hg) rfl rfl ?_|refine jo rfl rfl (index_arr rfl rfl rfl rfl rfl a0 a8) rfl rfl ?_|refine jo rfl rfl (load_dsem (r:=ty3) rfl rfl rfl hg2) rfl rfl ?_|refine jV h1 ?_|refine jV h2 ?_|refine jo rfl rfl (store_box (r':=ty3) (v:=iv v) rfl rfl rfl rfl rfl rfl hle hs) rfl rfl ?_)
 exact jend [] true rfl rfl rfl ⟨rfl,rfl⟩
theorem slocked_pan (w:Wd) (k:Nat) (t:Thr) (i:Ins) (kd y:Int) (h:TsR w.tso) (hk:k < w.tso.bufs.length) (hkd:kd=0∨kd=1∨kd=2) (a0:0≤i.a) (a8:i.a < 8) (b0:0≤i.b) (b8:i.b < 8)
  (he:(tsLocked w.tso k kd (rg t i.b) (rg t i.a) y).2.2≠0) :
  ACalls Tryz.prog 193 [.ptr 0 0,iv kd,iv y] (swH w k t i) (onep (fltA (tsLocked w.tso k kd (rg t i.b) (rg t i.a) y).2.2) (swH w k t i)):=by
 have h1:=locked_ok w.tso k kd (rg t i.b) (rg t i.a) y h hk hkd
 have h2:=must_pan _ he
 generalize tsLocked w.tso k kd (rg t i.b) (rg t i.a) y=v at *
 obtain ⟨v,v2,e⟩:=v
 simp only at *
 have hg:=sw_get w k t i b0 b8
 have hg2:=sw_get w k t i a0 a8
 unfold encTso tCells ivs at h1
 unfold swH
 unfold swC at *
 refine jC Tryz.func193 Tryz.ntmps193 (fun w0 β0 ext hβ=>?_)
 repeat (first|refine jS ?_|refine jD ?_|refine jB ?_|refine jo rfl rfl (index_arr rfl rfl rfl rfl rfl b0 b8) rfl rfl ?_|refine jo rfl rfl (load_dsem (r:=ty3) rfl rfl rfl hg) rfl rfl ?_|refine jo rfl rfl (index_arr rfl rfl rfl rfl rfl a0 a8) rfl rfl ?_|refine jo rfl rfl (load_dsem (r:=ty3) rfl rfl rfl hg2) rfl rfl ?_|refine jV h1 ?_)
 refine jbp [] h2 rfl rfl rfl ⟨rfl,rfl,rfl,rfl,rfl,rfl⟩ rfl rfl rfl ?_
 exact qpan [] true rfl rfl rfl rfl
theorem inv_box {ext:Nat→Prop} {w:World} {β:List Ent} {bt:TypeId} {cs cs':List AVal} (hI:Inv ext w [.box bt cs] β) (ho:cs'.all AVal.one=true) (hr:∀ (c:Ctx) us,RelL c cs us→RelL c cs' us):Inv ext w [.box bt cs'] β:=by
 refine ⟨hI.len,fun i o e hi he=>?_,hI.uniq,hI.sep⟩
 match i with
 | 0 =>
  simp at hi;subst hi
  obtain ⟨g1,g2,b,us,g3,g4,g5⟩:=hI.obj 0 _ e rfl he
  exact ⟨g1,ho,b,us,g3,g4,hr _ _ g5⟩
 | i+1=>simp at hi
theorem acalls_box {f:FuncId} {args:List AVal} {H:List AObj} {v:AVal} {bt:TypeId} {cs cs':List AVal} (h:ACalls Tryz.prog f args H (one v [.box bt cs])) (ho:cs'.all AVal.one=true) (hr:∀ (c:Ctx) us,RelL c cs us→RelL c cs' us):ACalls Tryz.prog f args H (one v [.box bt cs']):=by
 refine ⟨h.enters,fun ext w β us hI hx hrr=>(h.calls ext w β us hI hx hrr).mono fun e w' he=>?_⟩
 cases e with
 | returned u =>
  obtain ⟨v1,H',β',⟨q1,q2⟩,h2,h3,h4⟩:=he
  subst q2
  exact ⟨v1,_,β',⟨q1,rfl⟩,h2,inv_box h3 ho hr,h4⟩
 | panicked ch=>obtain ⟨u,_,v1,H',β',⟨q1,q2⟩,_⟩:=he;cases q1
 | outgrown=>exact he.elim
theorem relL_set {c:Ctx} {y:AVal}:∀ {cs:List AVal} {us:List Value} {n:Nat} {x:AVal},cs[n]? = some x→(∀ u,Rel c x u→Rel c y u)→RelL c cs us→RelL c (cs.set n y) us
 | [],_,n,x,h,_,_=>by simp at h
 | a::cs,_,0,x,h,hr,⟨u,us,e,r,rs⟩=>by
  simp at h;subst h
  exact ⟨u,us,e,hr u r,rs⟩
 | a::cs,_,n+1,x,h,hr,⟨u,us,e,r,rs⟩=>⟨u,us,e,r,relL_set (by simpa using h) hr rs⟩
def swX (w : Wd) (k : Int) (t : Thr) (i : Ins) (x : AVal) : List AVal :=
  [.sl (w.code.map encIns), .sl (w.tso.mem.words.map iv), .sl (w.tso.mem.tags.map iv), iv w.tso.depth, .sl (w.tso.bufs.map encBuf), .sl (w.thr.map encThr), .sl (w.evs.map encEvt), iv k,
   iv t.pc, iv (g0 t.regs 0), iv (g0 t.regs 1), iv (g0 t.regs 2), iv (g0 t.regs 3), iv (g0 t.regs 4), iv (g0 t.regs 5), iv (g0 t.regs 6), iv (g0 t.regs 7), .sl (t.frames.map encFrm), iv t.state, iv t.fault, x, iv i.op, iv i.a, iv i.b, iv i.c]
theorem swX_rel {w:Wd} {k:Int} {t:Thr} {i:Ins} {x y:AVal} (hr:∀ (c:Ctx) u,Rel c x u→Rel c y u) (c:Ctx) (us:List Value) (h:RelL c (swX w k t i x) us):RelL c (swX w k t i y) us :=
 relL_set (n:=20) (x:=x) rfl (hr c) h
theorem sbroad_some (w:Wd) (k:Nat) (t:Thr) (i:Ins) (hl:0 < t.left.length) :
  ACalls Tryz.prog 194 [.ptr 0 0] (swH w k t i) (one (.tup []) (swH w k { t with left:=[] } i)):=by
 have hd:decide (((t.left.map iv).length:Int) > 0)=true:=decide_eq_true (by rw [List.length_map];omega)
 have h0:ACalls Tryz.prog 194 [.ptr 0 0] (swH w k t i) (one (.tup []) [.box 233 (swX w k t i (.slf []))]):=by
  unfold swH swC swX
  refine jC Tryz.func194 Tryz.ntmps194 (fun w0 β0 ext hβ=>?_)
  repeat (first|refine jS ?_|refine jD ?_|refine jB ?_)
  rw [hd]
  repeat (first|refine jS ?_|refine jD ?_|refine jB ?_)
  exact jret [] false rfl rfl rfl ⟨rfl,rfl⟩
 exact acalls_box h0 rfl (swX_rel fun c u h=>slf_slz h)
theorem lens_take {b:List (List Wput)} {q:Nat} (h:q < b.length):lens (b.take (q+1))=lens (b.take q)++[((at' b (q:Int)).length:Int)]:=by
 unfold lens
 rw [at_nat b q h,List.take_add_one,List.getElem?_eq_getElem h,List.map_append]
 rfl
theorem sbroad_none (w:Wd) (k:Nat) (t:Thr) (i:Ins) (hl:t.left=[]) (hp:1≤t.pc) (hp2:t.pc≤1001) (hb:1≤w.tso.bufs.length) (hb8:w.tso.bufs.length≤8) :
  ACalls Tryz.prog 194 [.ptr 0 0] (swH w k t i) (one (.tup []) (swH w k { t with pc:=t.pc-1,left:=lens w.tso.bufs } i)):=by
 have hw:IntKind.i64.wrap (t.pc-1)=t.pc-1:=by rw [wrap_id]<;>omega
 have h0:ACalls Tryz.prog 194 [.ptr 0 0] (swH w k t i) (one (.tup []) [.box 233 (swX w k { t with pc:=t.pc-1 } i (.sl ((lens w.tso.bufs).map iv)))]):=by
  have e0:swC w k t i=swX w k t i (.slz []):=by unfold swC swX;rw [hl];rfl
  unfold swH
  rw [e0]
  unfold swX
  refine jC Tryz.func194 Tryz.ntmps194 (fun w0 β0 ext hβ=>?_)
  refine jweakB 0 (swX w k t i (.slf [])) rfl rfl rfl (swX_rel fun c u h=>slz_slf h) ?_
  unfold swX
  repeat (first|refine jS ?_|refine jD ?_|refine jB ?_)
  rw [hw]
  repeat (first|refine jS ?_|refine jD ?_|refine jB ?_)
  refine jadB 0 20 3 1 rfl rfl rfl rfl ?_
  refine jloopI (fun q:Nat=>q≤w.tso.bufs.length) [0,29,30,31] (fun q=>[.ptr 0 0,.sl (w.tso.bufs.map encBuf),.v (.int .i64 ((w.tso.bufs.map encBuf).length:Int)),.v (.int .i64 (q:Int))])
   (fun q=>[.box 233 (swX w k { t with pc:=t.pc-1 } i (.arr 1 (q+1))),.arr (q+1) 3 1 ((lens (w.tso.bufs.take q)).map iv)]) (fun q=>w.tso.bufs.length-q) 0 (Nat.zero_le _) rfl rfl (fun q hq=>?_)
  unfold swX
  simp only
  repeat (first|refine jS ?_|refine jD ?_|refine jB ?_)
  refine jc rfl rfl rfl (fun h=>?_) (fun h=>?_)
  ·have h:=of_decide_eq_true h
   rw [List.length_map] at h
   have hq2:q < w.tso.bufs.length:=by omega
   have hlt:=lens_take hq2
   have hll:(lens (w.tso.bufs.take q)).length≤8:=by unfold lens;rw [List.length_map,List.length_take];omega
   repeat (first|refine jS ?_|refine jD ?_|refine jB ?_|refine jI (Int.natCast_nonneg q) h ?_)
   rw [show (((at' w.tso.bufs (q:Int)).map encPut).length:Int)=((at' w.tso.bufs (q:Int)).length:Int) by rw [List.length_map]]
   repeat (first|refine jS ?_|refine jD ?_|refine jB ?_)
   refine jo rfl rfl (append_enc (enc:=iv) (l:=lens (w.tso.bufs.take q)) ((at' w.tso.bufs (q:Int)).length:Int) rfl rfl rfl rfl rfl rfl rfl rfl rfl rfl (fun x=>⟨rfl,rfl⟩) rfl (by omega) rfl rfl) rfl rfl ?_
   rw [←hlt]
   repeat (first|refine jS ?_|refine jD ?_|refine jB ?_)
   refine jnextI (q+1) hq2 ?_ rfl (by omega)
   show some _=some _
   rw [idx_next hq2 (by omega)]
  ·have h:=of_decide_eq_false h
   rw [List.length_map] at h
   have:q=w.tso.bufs.length:=by omega
   subst this
   rw [List.take_length]
   repeat (first|refine jS ?_|refine jD ?_|refine jB ?_)
   rcases (by omega:w.tso.bufs.length=1∨w.tso.bufs.length=2∨w.tso.bufs.length=3∨w.tso.bufs.length=4∨w.tso.bufs.length=5∨w.tso.bufs.length=6∨w.tso.bufs.length=7∨w.tso.bufs.length=8) with e|e|e|e|e|e|e|e
   all_goals rw [e]
   all_goals exact jend [] true rfl rfl rfl ⟨rfl,rfl⟩
 refine acalls_box h0 rfl (swX_rel fun c u h=>?_)
 unfold lens at *
 cases hbb:w.tso.bufs with
 | nil=>rw [hbb] at hb;simp at hb
 | cons x r=>rw [hbb] at h;exact sl_slz h
end Go.AL
end
