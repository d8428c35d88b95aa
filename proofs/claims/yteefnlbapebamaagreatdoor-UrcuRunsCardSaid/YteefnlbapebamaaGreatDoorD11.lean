/-
  Part 11 of the proof texts: the program logic over the model, then the contracts of the functions that the laws reach. No conditions.
-/
import Derived.Test.YteefnlbapebamaaGreatDoorD10
set_option linter.unusedVariables false
set_option linter.unusedSimpArgs false
set_option maxHeartbeats 2000000
section
set_option maxRecDepth 100000
namespace Go.AL
open Go Go.Proofs
attribute [local irreducible] J
theorem rsame_ints (l:List (Int)) (hl:l.length≤1000000):ACalls Tryz.prog 50 [.sl (l.map iv),.sl (l.map iv)] [] (one (bv true) []):=by
 refine jC Tryz.func50 Tryz.ntmps50 (fun w0 β0 ext hβ=>?_)
 repeat (first|refine jS ?_|refine jD ?_|refine jB ?_)
 refine jc rfl rfl rfl (fun h=>absurd h (by simp)) (fun h=>?_)
 repeat (first|refine jS ?_|refine jD ?_|refine jB ?_)
 refine jloopI (fun i:Nat=>i≤l.length) [0,1,12,13] (fun i=>[.sl (l.map iv),.sl (l.map iv),.v (.int .i64 ((l.map iv).length:Int)),.v (.int .i64 (i:Int))]) (fun _=>[]) (fun i=>l.length-i) 0 (Nat.zero_le _) rfl rfl (fun i hi=>?_)
 repeat (first|refine jS ?_|refine jD ?_|refine jB ?_)
 refine jc rfl rfl rfl (fun h=>?_) (fun h=>?_)
 ·have h:=of_decide_eq_true h
  rw [List.length_map] at h
  have hi1:i < l.length:=by omega
  have w1:=idx_next hi1 (by omega)
  repeat (first|refine jS ?_|refine jD ?_|refine jB ?_|refine jI (Int.natCast_nonneg i) h ?_)
  refine jc rfl rfl rfl (fun h=>absurd h (by simp)) (fun h=>?_)
  repeat (first|refine jS ?_|refine jD ?_|refine jB ?_)
  refine jnextI (i+1) hi1 ?_ rfl (by omega)
  show some _=some _
  rw [w1]
 ·repeat (first|refine jS ?_|refine jD ?_|refine jB ?_)
  exact jR
theorem rsame_puts (l:List (Wput)) (hl:l.length≤1000000):ACalls Tryz.prog 109 [.sl (l.map encPut),.sl (l.map encPut)] [] (one (bv true) []):=by
 refine jC Tryz.func109 Tryz.ntmps109 (fun w0 β0 ext hβ=>?_)
 repeat (first|refine jS ?_|refine jD ?_|refine jB ?_)
 refine jc rfl rfl rfl (fun h=>absurd h (by simp)) (fun h=>?_)
 repeat (first|refine jS ?_|refine jD ?_|refine jB ?_)
 refine jloopI (fun i:Nat=>i≤l.length) [0,1,12,13] (fun i=>[.sl (l.map encPut),.sl (l.map encPut),.v (.int .i64 ((l.map encPut).length:Int)),.v (.int .i64 (i:Int))]) (fun _=>[]) (fun i=>l.length-i) 0 (Nat.zero_le _) rfl rfl (fun i hi=>?_)
 repeat (first|refine jS ?_|refine jD ?_|refine jB ?_)
 refine jc rfl rfl rfl (fun h=>?_) (fun h=>?_)
 ·have h:=of_decide_eq_true h
  rw [List.length_map] at h
  have hi1:i < l.length:=by omega
  have w1:=idx_next hi1 (by omega)
  have hx:encPut (at' l (i:Int)) = .agg (intsA [(at' l (i:Int)).loc,(at' l (i:Int)).val]):=rfl
  repeat (first|refine jS ?_|refine jD ?_|refine jB ?_|refine jI (Int.natCast_nonneg i) h ?_|refine jo rfl rfl (eq_intsR (xs:=[(at' l (i:Int)).loc,(at' l (i:Int)).val]) (ys:=[(at' l (i:Int)).loc,(at' l (i:Int)).val]) (Or.inr rfl) rfl rfl rfl rfl rfl rfl (by kernel_rfl) (by kernel_rfl)) rfl rfl ?_)
  refine jc rfl rfl rfl (fun h=>absurd h (by simp)) (fun h=>?_)
  repeat (first|refine jS ?_|refine jD ?_|refine jB ?_)
  refine jnextI (i+1) hi1 ?_ rfl (by omega)
  show some _=some _
  rw [w1]
 ·repeat (first|refine jS ?_|refine jD ?_|refine jB ?_)
  exact jR
theorem rsame_evts (l:List (Evt)) (hl:l.length≤1000000):ACalls Tryz.prog 73 [.sl (l.map encEvt),.sl (l.map encEvt)] [] (one (bv true) []):=by
 refine jC Tryz.func73 Tryz.ntmps73 (fun w0 β0 ext hβ=>?_)
 repeat (first|refine jS ?_|refine jD ?_|refine jB ?_)
 refine jc rfl rfl rfl (fun h=>absurd h (by simp)) (fun h=>?_)
 repeat (first|refine jS ?_|refine jD ?_|refine jB ?_)
 refine jloopI (fun i:Nat=>i≤l.length) [0,1,12,13] (fun i=>[.sl (l.map encEvt),.sl (l.map encEvt),.v (.int .i64 ((l.map encEvt).length:Int)),.v (.int .i64 (i:Int))]) (fun _=>[]) (fun i=>l.length-i) 0 (Nat.zero_le _) rfl rfl (fun i hi=>?_)
 repeat (first|refine jS ?_|refine jD ?_|refine jB ?_)
 refine jc rfl rfl rfl (fun h=>?_) (fun h=>?_)
 ·have h:=of_decide_eq_true h
  rw [List.length_map] at h
  have hi1:i < l.length:=by omega
  have w1:=idx_next hi1 (by omega)
  have hx:encEvt (at' l (i:Int)) = .agg (intsA [(at' l (i:Int)).kind,(at' l (i:Int)).who,(g0 (at' l (i:Int)).words 0),(g0 (at' l (i:Int)).words 1),(g0 (at' l (i:Int)).words 2),(g0 (at' l (i:Int)).words 3)]):=rfl
  repeat (first|refine jS ?_|refine jD ?_|refine jB ?_|refine jI (Int.natCast_nonneg i) h ?_|refine jo rfl rfl (eq_intsR (xs:=[(at' l (i:Int)).kind,(at' l (i:Int)).who,(g0 (at' l (i:Int)).words 0),(g0 (at' l (i:Int)).words 1),(g0 (at' l (i:Int)).words 2),(g0 (at' l (i:Int)).words 3)]) (ys:=[(at' l (i:Int)).kind,(at' l (i:Int)).who,(g0 (at' l (i:Int)).words 0),(g0 (at' l (i:Int)).words 1),(g0 (at' l (i:Int)).words 2),(g0 (at' l (i:Int)).words 3)]) (Or.inr rfl) rfl rfl rfl rfl rfl rfl (by kernel_rfl) (by kernel_rfl)) rfl rfl ?_)
  refine jc rfl rfl rfl (fun h=>absurd h (by simp)) (fun h=>?_)
  repeat (first|refine jS ?_|refine jD ?_|refine jB ?_)
  refine jnextI (i+1) hi1 ?_ rfl (by omega)
  show some _=some _
  rw [w1]
 ·repeat (first|refine jS ?_|refine jD ?_|refine jB ?_)
  exact jR
theorem rsame_mem (m:Mem) (h1:m.words.length≤1000000) (h2:m.tags.length≤1000000):ACalls Tryz.prog 14 [encMem m,encMem m] [] (one (bv true) []):=by
 have h1:=rsame_ints m.words h1
 have h2:=rsame_ints m.tags h2
 unfold encMem mCells ivs at *
 refine jC Tryz.func14 Tryz.ntmps14 (fun w0 β0 ext hβ=>?_)
 repeat (first|refine jS ?_|refine jD ?_|refine jB ?_|refine jV h1 ?_|refine jV h2 ?_)
 exact jR
theorem rsame_tso (t:Tso) (h:TsSz t):ACalls Tryz.prog 72 [encTso t,encTso t] [] (one (bv true) []):=by
 have h1:=rsame_mem t.mem h.words h.tags
 have h2:=fun b hb=>rsame_puts b (h.puts b hb)
 have hbl:=h.bufs
 unfold encMem mCells ivs at h1
 unfold encTso tCells ivs at *
 refine jC Tryz.func72 Tryz.ntmps72 (fun w0 β0 ext hβ=>?_)
 repeat (first|refine jS ?_|refine jD ?_|refine jB ?_|refine jV h1 ?_)
 rw [show (t.depth != t.depth)=false from by simp]
 repeat (first|refine jS ?_|refine jD ?_|refine jB ?_)
 refine jc rfl rfl rfl (fun h=>absurd h (by simp)) (fun h=>?_)
 repeat (first|refine jS ?_|refine jD ?_|refine jB ?_)
 refine jloopI (fun i:Nat=>i≤t.bufs.length) [2,3,30,31] (fun i=>[.ptr 0 0,.ptr 1 0,.v (.int .i64 ((t.bufs.map encBuf).length:Int)),.v (.int .i64 (i:Int))]) (fun _=>_) (fun i=>t.bufs.length-i) 0 (Nat.zero_le _) rfl rfl (fun i hi=>?_)
 repeat (first|refine jS ?_|refine jD ?_|refine jB ?_)
 refine jc rfl rfl rfl (fun h=>?_) (fun h=>?_)
 ·have h:=of_decide_eq_true h
  rw [List.length_map] at h
  have hi1:i < t.bufs.length:=by omega
  have w1:=idx_next hi1 (by omega)
  have h2:=h2 _ (at_mem hi1)
  repeat (first|refine jS ?_|refine jD ?_|refine jB ?_|refine jI (Int.natCast_nonneg i) h ?_|refine jV h2 ?_)
  refine jnextI (i+1) hi1 ?_ rfl (by omega)
  show some _=some _
  rw [w1]
 ·repeat (first|refine jS ?_|refine jD ?_|refine jB ?_)
  exact jR
theorem rsame_thr (t:Thr) (h1:t.frames.length≤1000000) (h2:t.left.length≤1000000):ACalls Tryz.prog 70 [encThr t,encThr t] [] (one (bv true) []):=by
 have hli:=rsame_ints t.left h2
 rw [encThr_agg]
 refine jC Tryz.func70 Tryz.ntmps70 (fun w0 β0 ext hβ=>?_)
 repeat (first|refine jS ?_|refine jD ?_|refine jB ?_)
 rw [show (t.pc != t.pc)=false from by simp]
 repeat (first|refine jS ?_|refine jD ?_|refine jB ?_|refine jo rfl rfl (eq_intsR (xs:=[g0 t.regs 0,g0 t.regs 1,g0 t.regs 2,g0 t.regs 3,g0 t.regs 4,g0 t.regs 5,g0 t.regs 6,g0 t.regs 7]) (ys:=[g0 t.regs 0,g0 t.regs 1,g0 t.regs 2,g0 t.regs 3,g0 t.regs 4,g0 t.regs 5,g0 t.regs 6,g0 t.regs 7]) (Or.inr rfl) rfl rfl rfl rfl rfl rfl (by kernel_rfl) (by kernel_rfl)) rfl rfl ?_)
 rw [show (if (BinOp.neq=BinOp.eql) then decide ([g0 t.regs 0,g0 t.regs 1,g0 t.regs 2,g0 t.regs 3,g0 t.regs 4,g0 t.regs 5,g0 t.regs 6,g0 t.regs 7]=[g0 t.regs 0,g0 t.regs 1,g0 t.regs 2,g0 t.regs 3,g0 t.regs 4,g0 t.regs 5,g0 t.regs 6,g0 t.regs 7]) else !decide ([g0 t.regs 0,g0 t.regs 1,g0 t.regs 2,g0 t.regs 3,g0 t.regs 4,g0 t.regs 5,g0 t.regs 6,g0 t.regs 7]=[g0 t.regs 0,g0 t.regs 1,g0 t.regs 2,g0 t.regs 3,g0 t.regs 4,g0 t.regs 5,g0 t.regs 6,g0 t.regs 7]))=false from by simp]
 repeat (first|refine jS ?_|refine jD ?_|refine jB ?_)
 rw [show (t.state != t.state)=false from by simp]
 repeat (first|refine jS ?_|refine jD ?_|refine jB ?_)
 rw [show (t.fault != t.fault)=false from by simp]
 repeat (first|refine jS ?_|refine jD ?_|refine jB ?_)
 refine jc rfl rfl rfl (fun h=>absurd h (by simp)) (fun h=>?_)
 repeat (first|refine jS ?_|refine jD ?_|refine jB ?_)
 refine jloopI (fun i:Nat=>i≤t.frames.length) [2,3,43,44] (fun i=>[.ptr 0 0,.ptr 1 0,.v (.int .i64 ((t.frames.map encFrm).length:Int)),.v (.int .i64 (i:Int))]) (fun _=>_) (fun i=>t.frames.length-i) 0 (Nat.zero_le _) rfl rfl (fun i hi=>?_)
 repeat (first|refine jS ?_|refine jD ?_|refine jB ?_)
 refine jc rfl rfl rfl (fun h=>?_) (fun h=>?_)
 ·have h:=of_decide_eq_true h
  rw [List.length_map] at h
  have hi1:i < t.frames.length:=by omega
  have w1:=idx_next hi1 (by omega)
  have hx:encFrm (at' t.frames (i:Int)) = .agg (intsA [(at' t.frames (i:Int)).back,g0 (at' t.frames (i:Int)).kept 0,g0 (at' t.frames (i:Int)).kept 1,g0 (at' t.frames (i:Int)).kept 2,g0 (at' t.frames (i:Int)).kept 3]):=rfl
  repeat (first|refine jS ?_|refine jD ?_|refine jB ?_|refine jI (Int.natCast_nonneg i) h ?_|refine jo rfl rfl (eq_intsR (xs:=[(at' t.frames (i:Int)).back,g0 (at' t.frames (i:Int)).kept 0,g0 (at' t.frames (i:Int)).kept 1,g0 (at' t.frames (i:Int)).kept 2,g0 (at' t.frames (i:Int)).kept 3]) (ys:=[(at' t.frames (i:Int)).back,g0 (at' t.frames (i:Int)).kept 0,g0 (at' t.frames (i:Int)).kept 1,g0 (at' t.frames (i:Int)).kept 2,g0 (at' t.frames (i:Int)).kept 3]) (Or.inr rfl) rfl rfl rfl rfl rfl rfl (by kernel_rfl) (by kernel_rfl)) rfl rfl ?_)
  refine jc rfl rfl rfl (fun h=>absurd h (by simp)) (fun h=>?_)
  repeat (first|refine jS ?_|refine jD ?_|refine jB ?_)
  refine jnextI (i+1) hi1 ?_ rfl (by omega)
  show some _=some _
  rw [w1]
 ·repeat (first|refine jS ?_|refine jD ?_|refine jB ?_|refine jw hli rfl rfl rfl rfl rfl rfl ?_)
  exact jR
theorem rsame_ok (w:Wd) (h:WdSz w) (he:w.evs.length≤1000000):ACalls Tryz.prog 34 [encWd w,encWd w] [] (one (bv true) []):=by
 have h1:=same_ok w.code h.code
 have h2:=rsame_tso w.tso h.tso
 have h3:=fun t ht=>rsame_thr t (h.each t ht).1 (h.each t ht).2
 have h4:=rsame_evts w.evs he
 have hl:=h.thr
 unfold encIs at h1
 unfold encTso tCells ivs at h2
 unfold encWd wCells ivs at *
 refine jC Tryz.func34 Tryz.ntmps34 (fun w0 β0 ext hβ=>?_)
 repeat (first|refine jS ?_|refine jD ?_|refine jB ?_)
 refine jc rfl rfl rfl (fun h=>absurd h (by simp)) (fun h=>?_)
 repeat (first|refine jS ?_|refine jD ?_|refine jB ?_)
 refine jloopI (fun i:Nat=>i≤w.thr.length) [2,3,15,16] (fun i=>[.ptr 0 0,.ptr 1 0,.v (.int .i64 ((w.thr.map encThr).length:Int)),.v (.int .i64 (i:Int))]) (fun _=>_) (fun i=>w.thr.length-i) 0 (Nat.zero_le _) rfl rfl (fun i hi=>?_)
 repeat (first|refine jS ?_|refine jD ?_|refine jB ?_)
 refine jc rfl rfl rfl (fun h=>?_) (fun h=>?_)
 ·have h:=of_decide_eq_true h
  rw [List.length_map] at h
  have hi1:i < w.thr.length:=by omega
  have w1:=idx_next hi1 (by omega)
  have h3:=h3 _ (at_mem hi1)
  repeat (first|refine jS ?_|refine jD ?_|refine jB ?_|refine jI (Int.natCast_nonneg i) h ?_|refine jV h3 ?_)
  refine jnextI (i+1) hi1 ?_ rfl (by omega)
  show some _=some _
  rw [w1]
 ·repeat (first|refine jS ?_|refine jD ?_|refine jB ?_|refine jV h1 ?_|refine jV h2 ?_|refine jV h4 ?_)
  exact jR
end Go.AL
end
section
set_option maxRecDepth 100000
namespace Go.AL
open Go Go.Proofs
attribute [local irreducible] J
end Go.AL
namespace Go.AL
open Go Go.Proofs
attribute [local irreducible] J
end Go.AL
end
section
set_option maxRecDepth 100000
namespace Go.AL
open Go Go.Proofs
theorem slf_one {x y:AVal} (h:∀ (c:Ctx) u,Rel c x u→Rel c y u) (c:Ctx) (u:Value) (hr:Rel c (.slf [x]) u):Rel c (.slf [y]) u:=by
 obtain ⟨A,es,h1,h2,⟨u0,r1,r2,r3⟩,_⟩:=hr
 exact ⟨A,es,h1,fun _=>h2 (by simp),⟨u0,h _ _ r1,r2,r3⟩,trivial⟩
attribute [local irreducible] J
theorem rep_succ {α:Type} (n:Nat) (x:α):List.replicate n x++[x]=List.replicate (n+1) x:=by rw [List.replicate_succ']
theorem rmnew_ok (n:Nat) (hn:n≤1000):ACalls Tryz.prog 76 [iv (n:Int)] [] (one (encMem ⟨List.replicate n 0,List.replicate n 0⟩) []):=by
 unfold encMem mCells ivs
 refine jC Tryz.func76 Tryz.ntmps76 (fun w0 β0 ext hβ=>?_)
 repeat (first|refine jadB 1 1 3 1 rfl rfl rfl rfl ?_|refine jadB 1 0 3 1 rfl rfl rfl rfl ?_|refine jS ?_|refine jD ?_|refine jB ?_)
 refine jloopI (fun q:Nat=>q≤n) [0,2,3,4] (fun q=>[iv (n:Int),.ptr 0 0,.ptr 1 0,iv (q:Int)])
  (fun q=>[.box 26 [.slf [],.slf []],.box 26 [.arr 3 (q+1),.arr 2 (q+1)],.arr (q+1) 3 1 ((List.replicate q (0:Int)).map iv),.arr (q+1) 3 1 ((List.replicate q (0:Int)).map iv)]) (fun q=>n-q) 0 (Nat.zero_le _) rfl rfl (fun q hq=>?_)
 repeat (first|refine jS ?_|refine jD ?_|refine jB ?_)
 by_cases h:q < n
 ·rw [show decide ((q:Int) < (n:Int))=true from decide_eq_true (by omega)]
  have hidx:IntKind.i64.wrap ((q:Int)+1)=((q+1:Nat):Int):=by rw [wrap_id]<;>omega
  repeat (first|refine jS ?_|refine jD ?_|refine jB ?_)
  refine jo rfl rfl (append_enc (enc:=iv) (l:=List.replicate q (0:Int)) 0 rfl rfl rfl rfl rfl rfl rfl rfl rfl rfl (fun x=>⟨rfl,rfl⟩) rfl (by rw [List.length_replicate];omega) rfl rfl) rfl rfl ?_
  repeat (first|refine jS ?_|refine jD ?_|refine jB ?_)
  refine jo rfl rfl (append_enc (enc:=iv) (l:=List.replicate q (0:Int)) 0 rfl rfl rfl rfl rfl rfl rfl rfl rfl rfl (fun x=>⟨rfl,rfl⟩) rfl (by rw [List.length_replicate];omega) rfl rfl) rfl rfl ?_
  rw [rep_succ]
  repeat (first|refine jS ?_|refine jD ?_|refine jB ?_)
  refine jnextI (q+1) h ?_ rfl (by omega)
  show some _=some _
  rw [hidx]
  rfl
 ·have:q=n:=by omega
  subst this
  rw [show decide ((q:Int) < (q:Int))=false from decide_eq_false (by omega)]
  refine jc rfl rfl rfl (fun hf=>absurd hf (by decide)) (fun _=>?_)
  refine jpubB 1 0 3 rfl rfl rfl rfl rfl rfl rfl ?_
  refine jpubB 1 1 2 rfl rfl rfl rfl rfl rfl rfl ?_
  repeat (first|refine jS ?_|refine jD ?_|refine jB ?_)
  exact jR
theorem sl_nil_buf (c:Ctx) (u:Value) (h:Rel c (.slf []) u):Rel c (encBuf []) u:=sl_weak h
theorem rtnew_ok (m:Mem) (n:Nat) (d:Int) (hn:n≤1000):ACalls Tryz.prog 159 [encMem m,iv (n:Int),iv d] [] (one (encTso ⟨m,d,List.replicate n []⟩) []):=by
 unfold encTso tCells encMem mCells ivs
 refine jC Tryz.func159 Tryz.ntmps159 (fun w0 β0 ext hβ=>?_)
 repeat (first|refine jadB 2 3 159 1 rfl rfl rfl rfl ?_|refine jS ?_|refine jD ?_|refine jB ?_)
 refine jloopI (fun q:Nat=>q≤n) [1,3,6,7,8] (fun q=>[iv (n:Int),.ptr 0 0,.ptr 1 0,.ptr 2 0,iv (q:Int)])
  (fun q=>[.box 26 [.sl (m.words.map iv),.sl (m.tags.map iv)],.box 29 [.slf [],.slf [],iv 0,.slf []],.box 29 [.sl (m.words.map iv),.sl (m.tags.map iv),iv d,.arr 3 (q+1)],.arr (q+1) 159 1 ((List.replicate q ([]:List Wput)).map encBuf)]) (fun q=>n-q) 0 (Nat.zero_le _) rfl rfl (fun q hq=>?_)
 repeat (first|refine jS ?_|refine jD ?_|refine jB ?_)
 by_cases h:q < n
 ·rw [show decide ((q:Int) < (n:Int))=true from decide_eq_true (by omega)]
  have hidx:IntKind.i64.wrap ((q:Int)+1)=((q+1:Nat):Int):=by rw [wrap_id]<;>omega
  repeat (first|refine jow rfl rfl (buildB_dsem rfl) (slf_one sl_nil_buf) rfl rfl ?_|refine jS ?_|refine jD ?_|refine jB ?_)
  refine jo rfl rfl (append_enc (enc:=encBuf) (l:=List.replicate q ([]:List Wput)) [] rfl rfl rfl rfl rfl rfl rfl rfl rfl rfl (fun x=>⟨rfl,rfl⟩) rfl (by rw [List.length_replicate];omega) rfl rfl) rfl rfl ?_
  rw [rep_succ]
  repeat (first|refine jS ?_|refine jD ?_|refine jB ?_)
  refine jnextI (q+1) h ?_ rfl (by omega)
  show some _=some _
  rw [hidx]
  rfl
 ·have:q=n:=by omega
  subst this
  rw [show decide ((q:Int) < (q:Int))=false from decide_eq_false (by omega)]
  refine jc rfl rfl rfl (fun hf=>absurd hf (by decide)) (fun _=>?_)
  refine jpubB 2 3 3 rfl rfl rfl rfl rfl rfl rfl ?_
  repeat (first|refine jS ?_|refine jD ?_|refine jB ?_)
  exact jR
theorem rwnew_ok (code:List Ins) (st:List Int) (m:Mem) (d:Int) (hs:st.length≤1000):ACalls Tryz.prog 112 [encIs code,ivs st,encMem m,iv d] [] (one (encWd (newOk code st m d)) []):=by
 have h3:=rtnew_ok m st.length d hs
 have hlm:((st.map iv).length:Int)=(st.length:Int):=by rw [List.length_map]
 have he:(st.map thrP).map encThr=st.map fun a=>encThr (thrP a):=by rw [List.map_map];rfl
 unfold newOk
 unfold encWd wCells encTso tCells encIs encMem mCells at *
 unfold ivs at *
 simp only
 rw [he]
 refine jC Tryz.func112 Tryz.ntmps112 (fun w0 β0 ext hβ=>?_)
 repeat (first|refine jS ?_|refine jD ?_|refine jB ?_)
 rw [hlm]
 repeat (first|refine jadB 2 5 43 13 rfl rfl rfl rfl ?_|refine jS ?_|refine jD ?_|refine jB ?_|refine jV h3 ?_)
 refine jloopI (fun q:Nat=>q≤st.length) [8,9,19,20,21] (fun q=>[.ptr 1 0,.ptr 2 0,.sl (st.map iv),.v (.int .i64 ((st.map iv).length:Int)),.v (.int .i64 (q:Int))])
  (fun q=>[.box 26 [.sl (m.words.map iv),.sl (m.tags.map iv)],.box 33 [.slf [],.slf [],.slf [],iv 0,.slf [],.slf [],.slf []],
   .box 33 [.sl (code.map encIns),.sl (m.words.map iv),.sl (m.tags.map iv),iv d,.sl ((List.replicate st.length ([]:List Wput)).map encBuf),.arr 3 (q+1),.slf []],.arr (q+1) 43 13 ((st.take q).map fun a=>encThr (thrP a))]) (fun q=>st.length-q) 0 (Nat.zero_le _) rfl rfl (fun q hq=>?_)
 repeat (first|refine jS ?_|refine jD ?_|refine jB ?_)
 refine jc rfl rfl rfl (fun h=>?_) (fun h=>?_)
 ·have h:=of_decide_eq_true h
  rw [List.length_map] at h
  have hq2:q < st.length:=by omega
  have hidx:IntKind.i64.wrap ((q:Int)+1)=((q+1:Nat):Int):=idx_next hq2 (by omega)
  have htk:(st.take q)++[at' st (q:Int)]=st.take (q+1):=by rw [at_nat st q hq2,List.take_add_one,List.getElem?_eq_getElem hq2];rfl
  have hln:(st.take q).length≤1000:=by rw [List.length_take];omega
  repeat (first|refine jow rfl rfl (readP_dsem rfl) (thr_weak _) rfl rfl ?_|refine jS ?_|refine jD ?_|refine jB ?_|refine jI (Int.natCast_nonneg q) h ?_)
  refine jo rfl rfl (append_enc (enc:=fun a=>encThr (thrP a)) (l:=st.take q) (at' st (q:Int)) rfl rfl rfl rfl rfl rfl rfl rfl rfl rfl (elemsP []) rfl (by omega) rfl rfl) rfl rfl ?_
  rw [htk]
  repeat (first|refine jS ?_|refine jD ?_|refine jB ?_)
  refine jnextI (q+1) hq2 ?_ rfl (by omega)
  show some _=some _
  rw [hidx]
 ·have h:=of_decide_eq_false h
  rw [List.length_map] at h
  have:q=st.length:=by omega
  subst this
  rw [List.take_length]
  refine jpubB 2 5 3 rfl rfl rfl rfl rfl rfl rfl ?_
  repeat (first|refine jS ?_|refine jD ?_|refine jB ?_)
  exact jR
end Go.AL
end
section
set_option maxRecDepth 100000
namespace Go.AL
open Go Go.Proofs
attribute [local irreducible] J
theorem r9run_ok (w:Wd) (l:List Act) (h:WdR w) (he:w.evs.length≤800000) (hl:l.length≤100000):ACalls Tryz.prog 38 [encWd w,.sl (l.map encAct)] [] (one (.tup [encWd (runW w l).1,iv ((runW w l).2:Int)]) []):=by
 have h1:=rrun_ok w l h he hl
 generalize runW w l=r at *
 unfold encWd wCells ivs at *
 refine jC Tryz.func38 Tryz.ntmps38 (fun w0 β0 ext hβ=>?_)
 repeat (first|refine jS ?_|refine jD ?_|refine jB ?_|refine jV h1 ?_)
 exact jR
end Go.AL
end
section
set_option maxRecDepth 100000
namespace Go.AL
open Go Go.Proofs
attribute [local irreducible] J
theorem newOk_right {code:List Ins} {st:List Int} {m:Mem} {d:Int} (hc:rightC code=true) (hm:mRight m=true) (h1:1≤st.length) (h8:st.length≤8) (hd:0≤d∧d≤8) (hs:∀ a∈st,0≤a∧a≤code.length):WdR (newOk code st m d):=by
 have hl:code.length≤1000:=by
  unfold rightC at hc
  rw [Bool.and_eq_true] at hc
  exact of_decide_eq_true hc.1
 refine ⟨hc,⟨hm,⟨⟨by simp [newOk];omega,by simp [newOk];omega⟩,hd⟩,fun b hb=>?_⟩,by simp [newOk],fun t ht=>?_⟩
 ·have hb:b∈List.replicate st.length ([]:List Wput):=hb
  rw [List.eq_of_mem_replicate hb]
  exact ⟨hd.1,fun p hp=>absurd hp List.not_mem_nil⟩
 ·have ht:t∈st.map thrP:=ht
  obtain ⟨a,ha,rfl⟩:=List.mem_map.1 ht
  have:=hs a ha
  exact ⟨thRight_iff.2 ⟨by show 0≤a∧a≤1000;omega,Nat.zero_le _,Nat.zero_le _,fun f hf=>absurd hf List.not_mem_nil,fun f hf=>absurd hf List.not_mem_nil,.inl ⟨.inl rfl,rfl⟩⟩,.inl rfl⟩
def cl (L:Nat) (s:Int):Int:=(IntKind.i64.wrap (IntKind.i64.wrap (s.tmod (IntKind.i64.wrap ((L:Int)+1))+L)+1)).tmod (IntKind.i64.wrap ((L:Int)+1))
theorem tmod_bd (k:Int) {n:Int} (hn:0 < n) : -n < k.tmod n∧k.tmod n < n:=by
 have:=Int.natAbs_tmod k n
 have h2:(k.natAbs % n.natAbs) < n.natAbs:=Nat.mod_lt _ (by omega)
 omega
theorem tmod_nn {k n:Int} (hk:0≤k):0≤k.tmod n:=Int.tmod_nonneg n hk
def nine (d:Int):Int:=(IntKind.i64.wrap (d.tmod 9+9)).tmod 9
theorem nine_bd (d:Int):0≤nine d∧nine d≤8:=by
 unfold nine
 have h1:=tmod_bd d (n:=9) (by omega)
 rw [wrap_id (by omega : -9223372036854775808≤d.tmod 9+9) (by omega)]
 have h2:=tmod_bd (d.tmod 9+9) (n:=9) (by omega)
 have h3:=tmod_nn (k:=d.tmod 9+9) (n:=9) (by omega)
 omega
end Go.AL
end
section
set_option maxRecDepth 100000
namespace Go.AL
open Go Go.Proofs
theorem ACalls.argw {P:Program} {f:FuncId} {args args':List AVal} {H:List AObj} {Q:Eff} (h:ACalls P f args H Q) (hr:∀ (c:Ctx) us,RelL c args' us→RelL c args us):ACalls P f args' H Q :=
 ⟨h.enters,fun ext w β us hI hx h0=>h.calls ext w β us hI hx (hr _ _ h0)⟩
attribute [local irreducible] J
end Go.AL
end
section
set_option maxRecDepth 100000
namespace Go.AL
open Go Go.Proofs
attribute [local irreducible] J
def rst (s:Bs) (ls:List Bs):List Int:=ls.map fun l=>(rwhere s l).1
theorem rst_take (s:Bs) (ls:List Bs) {q:Nat} (h:q < ls.length):rst s (ls.take (q+1))=rst s (ls.take q)++[(rwhere s (at' ls (q:Int))).1]:=by
 unfold rst
 rw [at_nat ls q h,List.take_add_one,List.getElem?_eq_getElem h,List.map_append]
 rfl
theorem rstarts_ok (s:Bs) (ls:List Bs) (hs:s.length≤900000) (hl:ls.length≤1000) (hm:∀ l∈ls,l.length≤1000000) (hall:∀ l∈ls,(rwhere s l).2=0) :
  ACalls Tryz.prog 111 [sv s,.sl (ls.map sv)] [] (one (.tup [ivs (rst s ls),bv true]) []):=by
 refine jC Tryz.func111 Tryz.ntmps111 (fun w0 β0 ext hβ=>?_)
 repeat (first|refine jad 6 3 1 rfl rfl rfl rfl ?_|refine jS ?_|refine jD ?_|refine jB ?_)
 refine jloopI (fun q:Nat=>q≤ls.length) [0,6,12,13,14] (fun q=>[sv s,.arr 0 (q+1),.sl (ls.map sv),.v (.int .i64 ((ls.map sv).length:Int)),.v (.int .i64 (q:Int))])
  (fun q=>[.arr (q+1) 3 1 ((rst s (ls.take q)).map iv)]) (fun q=>ls.length-q) 0 (Nat.zero_le _) rfl rfl (fun q hq=>?_)
 repeat (first|refine jS ?_|refine jD ?_|refine jB ?_)
 refine jc rfl rfl rfl (fun h=>?_) (fun h=>?_)
 ·have h:=of_decide_eq_true h
  rw [List.length_map] at h
  have hq2:q < ls.length:=by omega
  have hidx:IntKind.i64.wrap ((q:Int)+1)=((q+1:Nat):Int):=idx_next hq2 (by omega)
  have htk:=rst_take s ls hq2
  have hw:=rwhere_ok s (at' ls (q:Int)) hs (hm _ (at_mem hq2))
  have h0:=hall _ (at_mem hq2)
  have hln:(rst s (ls.take q)).length≤1000:=by unfold rst;rw [List.length_map,List.length_take];omega
  generalize rwhere s (at' ls (q:Int))=r at *
  obtain ⟨r1,r2⟩:=r
  simp only at h0 htk hw
  subst h0
  repeat (first|refine jS ?_|refine jD ?_|refine jB ?_|refine jI (Int.natCast_nonneg q) h ?_|refine jV hw ?_)
  refine jo rfl rfl (append_enc (enc:=iv) (l:=rst s (ls.take q)) r1 rfl rfl rfl rfl rfl rfl rfl rfl rfl rfl (fun x=>⟨rfl,rfl⟩) rfl (by omega) rfl rfl) rfl rfl ?_
  rw [←htk]
  repeat (first|refine jS ?_|refine jD ?_|refine jB ?_)
  refine jnextI (q+1) hq2 ?_ rfl (by omega)
  show some _=some _
  rw [hidx]
 ·have h:=of_decide_eq_false h
  rw [List.length_map] at h
  have:q=ls.length:=by omega
  subst this
  rw [List.take_length]
  refine jpub 6 rfl rfl rfl rfl ?_
  repeat (first|refine jS ?_|refine jD ?_|refine jB ?_)
  exact jR
theorem rworld_ok (s:Bs) (ls:List Bs) (m:Mem) (d:Int) (hs:s.length≤900000) (hl:ls.length≤1000) (hm:∀ l∈ls,l.length≤1000000) (hall:∀ l∈ls,(rwhere s l).2=0) :
  ACalls Tryz.prog 77 [sv s,.sl (ls.map sv),encMem m,iv d] [] (one (encWd (newOk (rparse s).1 (rst s ls) m d)) []):=by
 have h1:=rparse_ok s hs
 have h2:=rstarts_ok s ls hs hl hm hall
 have h3:=rwnew_ok (rparse s).1 (rst s ls) m d (by unfold rst;rw [List.length_map];omega)
 generalize rst s ls=st at *
 generalize rparse s=r at *
 obtain ⟨r1,r2,r3⟩:=r
 simp only at h1 h3 ⊢
 generalize newOk r1 st m d=w at *
 unfold encIs encWd wCells encMem mCells ivs at *
 refine jC Tryz.func77 Tryz.ntmps77 (fun w0 β0 ext hβ=>?_)
 repeat (first|refine jS ?_|refine jD ?_|refine jB ?_|refine jV h1 ?_|refine jV h2 ?_|refine jV h3 ?_)
 exact jR
end Go.AL
end
section
set_option maxRecDepth 100000
namespace Go.AL
open Go Go.Proofs
attribute [local irreducible] J
theorem rst_eq {s:Bs} (h:(rparse s).2.2=0) (ls:List Bs):stAt s ls=rst s ls∧((∀ l∈ls,(whereP s l).2=0)↔∀ l∈ls,(rwhere s l).2=0):=by
 have e:∀ l,whereP s l=rwhere s l:=fun l=>by rw [where_eq,h];rfl
 unfold stAt rst
 simp only [e]
 exact ⟨trivial,trivial⟩
theorem newW_good {s:Bs} (h:(rparse s).2.2=0) (ls:List Bs) (m:Mem) (d:Int) (hm:mRight m=true) (hz:inn ls.length 1 8=true) (hd:inn d 0 8=true):newW (rparse s).1 (rst s ls) m d=(newOk (rparse s).1 (rst s ls) m d,0):=by
 unfold newW
 have hl:(rst s ls).length=ls.length:=by unfold rst;rw [List.length_map]
 rw [parse_right h,hm,hl,hz,hd]
 have:((rst s ls).all fun a=>inn a 0 (rparse s).1.length)=true:=List.all_eq_true.2 fun a ha=>by
  unfold rst at ha
  obtain ⟨l,_,rfl⟩:=List.mem_map.1 ha
  exact inn_iff.2 (where_right h)
 rw [this];rfl
theorem newOk_r {s:Bs} (h:(rparse s).2.2=0) (ls:List Bs) (m:Mem) (d:Int) (hm:mRight m=true) (hz:inn ls.length 1 8=true) (hd:inn d 0 8=true):WdR (newOk (rparse s).1 (rst s ls) m d):=by
 have hl:(rst s ls).length=ls.length:=by unfold rst;rw [List.length_map]
 obtain ⟨z1,z2⟩:=inn_iff.1 hz
 refine newOk_right (parse_right h) hm (by omega) (by omega) (inn_iff.1 hd) fun a ha=>?_
 unfold rst at ha
 obtain ⟨l,_,rfl⟩:=List.mem_map.1 ha
 exact where_right h
end Go.AL
end
section
set_option maxRecDepth 100000
namespace Go.AL
open Go Go.Proofs Go.RowKit
theorem cc_freshB (b:Nat) (w:World) (h0:w.cell? ⟨b,0,none⟩=some (.pointer none)) (hsh:w.shape? b=some (127,2)) (hfz:w.frozen? ⟨b,0,none⟩=false) :
  Calls Tryz.prog 80 #[.pointer (some ⟨b,0,none⟩)] w fun e w'=>e = .returned (.tuple #[])∧w'=w.setCell ⟨b,0,none⟩ (.pointer (some ⟨b,0,none⟩)):=by
 obtain ⟨j,hj,hjs⟩:=Option.map_eq_some_iff.1 (show (Tryz.prog.info? 86).map (·.size)=some 2 by kernel_rfl)
 go_enter Tryz.func80,Tryz.ntmps80
 go_wp2
 rw [Lib.run_to_unsafe w ⟨b,0,none⟩ Tryz.underlying83 Tryz.underlying183 hj (by rw [hjs];decide) hsh (Nat.zero_lt_succ _)]
 simp only [Result.andThen]
 rw [Oper.upon_value]
 go_wp2
 rw [run_callFunc_extern Tryz.func115 (by kernel_rfl) (by kernel_rfl) (by kernel_rfl) (e:=Extern.AbiNoEscape.same) (by kernel_rfl)]
 rw [Lib.run_noEscape]
 simp only [Result.andThen]
 rw [Oper.upon_value]
 go_wp2
 rw [Lib.run_from_unsafe w ⟨b,0,none⟩ Tryz.underlying183 Tryz.underlying83 hj hsh (by kernel_rfl)]
 simp only [Result.andThen]
 rw [Oper.upon_value]
 go_wp2
 go_end0
 exact ⟨rfl,rfl⟩
theorem bstr_rowB (b g cap:Nat) (p:Value) (cur:Array Value) (l:List UInt8) (w:World) (hbk:w.heap[b]? = some (.cells #[p,.slice (some ⟨g,0,none⟩) l.length cap] 127 (0,0))) (hg:w.heap[g]? = some (.cells cur 5 (0,0)))
  (h0:l≠[]) (hcap:l.length≤cap) (hcur:cur.size=cap) (h63:l.length≤9223372036854775807) (hc:∀ (j:Nat) (x:UInt8),l[j]? = some x→cur[j]? = some (Value.int .u8 x.toNat)) :
  Calls Tryz.prog 45 #[.pointer (some ⟨b,0,none⟩)] w fun e w'=>e = .returned (.string ⟨l.toArray⟩)∧w'=w.drew.freeze ⟨g,0,none⟩ l.length:=by
 have hl0:0 < l.length:=List.length_pos_iff.2 h0
 have c1:w.drew.cell? ⟨b,1,none⟩=some (.slice (some ⟨g,0,none⟩) l.length cap):=by
  have:w.drew.heap[b]? = some (.cells #[p,.slice (some ⟨g,0,none⟩) l.length cap] 127 (0,0)):=hbk
  rw [Lib.cell_of_heap this];rfl
 have hSD:(Builtin.unsafeSliceData_ #[84] 154 #[.slice (some ⟨g,0,none⟩) l.length cap]).run Tryz.prog w.drew = .ok (.pointer (some ⟨g,0,none⟩)) w.drew :=
  Lib.run_unsafeSliceData_row _ _ _ _ _ _ (by omega)
 have hUS:(Builtin.unsafeString_ #[154,3] 9 #[.pointer (some ⟨g,0,none⟩),.int .i64 l.length]).run Tryz.prog w.drew = .ok (.string ⟨l.toArray⟩) (w.drew.freeze ⟨g,0,none⟩ l.length):=by
  refine Lib.run_unsafeString_row w.drew 154 3 9 5 Tryz.underlying154 (by kernel_rfl) g cur.size (by have hg':w.drew.heap[g]? = some (.cells cur 5 (0,0)):=hg;simp [World.shape?,hg']) l h0 (by omega) h63 ?_
  intro j x hx
  have hg':w.drew.heap[g]? = some (.cells cur 5 (0,0)):=hg
  have:=hc j x hx
  simp only [Addr.add_lit,Nat.zero_add]
  rw [Lib.cell_of_heap hg']
  exact this
 go_enter Tryz.func45,Tryz.ntmps45
 go_wp2
 go_region
 all_goals (go_wp2;go_ret;exact ⟨rfl,rfl⟩)
attribute [local irreducible] J
def bldHB (u:Bool) (g:Nat) (l:Bs):List AObj:=[.box 127 [adr u,.arr 1 g],.arr g 5 1 (l.map encB)]
theorem cellsB {vs:Array Value} {p s:Value} (h:vs.toList=[p,s]):vs = #[p,s]:=by
 apply Array.ext';simpa using h
theorem cc_okB (u:Bool) (g:Nat) (l:Bs):ACalls Tryz.prog 80 [.ptr 0 0] (bldHB u g l) (one (.tup []) (bldHB true g l)):=by
 refine ⟨⟨_,Tryz.func80,by kernel_rfl,by kernel_rfl⟩,fun ext w β us hI hx hr=>?_⟩
 obtain ⟨x,us',rfl,r0,rfl⟩:=hr
 obtain ⟨e,b,vs,he,hb,rfl,hc,hrl,hone,h0⟩:=box_of hI (j:=0) rfl r0
 obtain ⟨p,vs1,hvs,rp,s,vs2,rfl,rs,rfl⟩:=hrl
 obtain rfl:=cellsB hvs
 have hcell:w.cell? ⟨b,0,none⟩=some p:=by simp [World.cell?,hc]
 have hlt:b < w.heap.size:=(Array.getElem?_eq_some_iff.1 hc).1
 cases u with
 | true =>
  obtain ⟨e',b',he',h0',hb',rfl⟩:=rp
  rw [he] at he'
  obtain rfl:=Option.some.inj he'
  rw [hb] at hb'
  obtain rfl:=Option.some.inj hb'
  refine (cc_used b w hcell).mono fun en w' ⟨h1,h2⟩=>?_
  subst h1;subst h2
  exact ⟨.tup [],_,β,⟨rfl,rfl⟩,⟨#[],rfl,rfl⟩,hI,Step.refl _ _⟩
 | false =>
  have hp:p = .pointer none:=rp
  subst hp
  refine (cc_freshB b w hcell (by simp [World.shape?,hc]) (by simp [World.frozen?,hc])).mono fun en w' ⟨h1,h2⟩=>?_
  subst h1;subst h2
  have k1:(w.setCell ⟨b,0,none⟩ (.pointer (some ⟨b,0,none⟩))).heap[b]? = some (.cells #[.pointer (some ⟨b,0,none⟩),s] 127 (0,0)):=by
   simp [World.setCell,Array.getElem?_modify,hc]
  have k2:∀ c,c≠b→(w.setCell ⟨b,0,none⟩ (.pointer (some ⟨b,0,none⟩))).heap[c]? = w.heap[c]?:=fun c hne=>RowKit.Below.heap_setCell _ _ _ _ hne
  have k3:(w.setCell ⟨b,0,none⟩ (.pointer (some ⟨b,0,none⟩))).heap.size=w.heap.size:=by simp [World.setCell]
  have hst:Step w β (w.setCell ⟨b,0,none⟩ (.pointer (some ⟨b,0,none⟩))) β:=Step.write ⟨0,e,he,hb⟩ k3 k2 rfl rfl rfl
  have hI':=hI.write (a:=.box 127 [.ptr 0 0,.arr 1 g]) he hb k3 k2 rfl rfl rfl ⟨h0,rfl,b,_,hb,k1,_,_,rfl,⟨e,b,he,h0,hb,rfl⟩,_,_,rfl,rs.le (hst.le (ext:=ext)),rfl⟩
  exact ⟨.tup [],_,β,⟨rfl,rfl⟩,⟨#[],rfl,rfl⟩,hI',hst⟩
theorem bld_regenB {f:FuncId} {args:List AVal} {H:List AObj} {v:AVal} {g g':Nat} {l:Bs} (hv:∀ c c' u,Rel c v u→Rel c' v u) (h:ACalls Tryz.prog f args H (one v (bldHB true g l))) (hg:g≤g'):ACalls Tryz.prog f args H (one v (bldHB true g' l)):=by
 rcases Nat.eq_or_lt_of_le hg with rfl|hlt
 ·exact h
 refine ⟨h.enters,fun ext w β us hI hx hr=>(h.calls ext w β us hI hx hr).mono fun en w' he=>?_⟩
 cases en with
 | returned u =>
  obtain ⟨v',H',β',⟨h1,rfl⟩,h2,h3,h4⟩:=he
  injection h1 with h1
  subst h1
  have hl:β'.length=2:=h3.len
  obtain ⟨e0,h0⟩:∃ e0,β'[0]? = some e0:=⟨_,List.getElem?_eq_getElem (by omega)⟩
  obtain ⟨e1,h1⟩:∃ e1,β'[1]? = some e1:=⟨_,List.getElem?_eq_getElem (by omega)⟩
  obtain ⟨q1,q0,q2,q3,q4,q5⟩:=h3.obj 1 _ e1 rfl h1
  obtain ⟨p1,p2,b,vs,hb,hc,p,vs1,hvs,rp,s,vs2,rfl,rs,rfl⟩:=h3.obj 0 _ e0 rfl h0
  obtain ⟨e2,f1,f2,f3,f4,f5⟩:∃ e2:Ent,e2.blk=e1.blk∧e2.gen=g'∧e2.es=e1.es∧e2.cap=e1.cap∧e2.len=e1.len:=⟨{ e1 with gen:=g' },rfl,rfl,rfl,rfl,rfl⟩
  have hreg:Step w' β' w' (β'.set 1 e2):=Step.regen h1 (by omega) (by omega) (.inr f1)
  have hxt:∀ b,ext b→b < w'.heap.size:=fun b hb=>Nat.lt_of_lt_of_le (hx b hb) h4.size
  have hI1:=h3.set (a:=.arr g' 5 1 (l.map encB)) hxt h1 hreg (fun _ _ _=>rfl) (.inr (.inr f1)) ⟨f2,by omega,f3.trans q2,f5.trans q3,by rw [f4];exact q4,by
   rw [f1,f4]
   cases hk:e1.blk with
   | none=>rw [hk] at q5;exact q5
   | some bk =>
    rw [hk] at q5
    obtain ⟨cs,x1,x2,x3⟩:=q5
    exact ⟨cs,x1,x2,x3.le (hreg.le (ext:=ext)).bare _ _ _ _⟩⟩
  have h0':(β'.set 1 e2)[0]? = some e0:=by rw [List.getElem?_set_ne (by omega)];exact h0
  have h1':(β'.set 1 e2)[1]? = some e2:=List.getElem?_set_self (by omega)
  obtain ⟨rs1,ee,rs2,rs3,rs4⟩:=rs
  rw [h1] at rs2
  obtain rfl:=Option.some.inj rs2
  have rsn:Rel (ctx ext w' (β'.set 1 e2)) (.arr 1 g') s:=by
   obtain ⟨x1,x2⟩:=rs4 q1
   exact ⟨rs1,_,h1',by omega,fun _=>⟨by omega,by rw [f1,f4,f5];exact x2⟩⟩
  have hI2:=hI1.write (w':=w') (a:=.box 127 [.ptr 0 0,.arr 1 g']) h0' hb rfl (fun _ _=>rfl) rfl rfl rfl ⟨p1,rfl,b,vs,hb,hc,p,_,hvs,rp.le (hreg.le (ext:=ext)),s,_,rfl,rsn,rfl⟩
  exact ⟨_,_,_,⟨rfl,rfl⟩,hv _ _ _ h2,hI2,h4.trans hreg⟩
 | panicked ch=>obtain ⟨u,_,v',H',β',⟨h1,_⟩,_⟩:=he;cases h1
 | outgrown=>exact he.elim
theorem wstr_gB (u:Bool) (g:Nat) (l s:Bs) (hl:l.length+s.length≤1000000000):ACalls Tryz.prog 39 [.ptr 0 0,sv s] (bldHB u g l) (one (.tup [iv s.length,.v .nilIface]) (bldHB true (g+1) (l++s))):=by
 have hc:=cc_okB u g l
 have hlen:(l.map encB).length+s.length≤140737488355328:=by rw [List.length_map];omega
 have he:=encB_elems l
 unfold bldHB at *
 cases u
 all_goals refine jC Tryz.func39 Tryz.ntmps39 (fun w0 β0 ext hβ=>?_)
 all_goals (
  repeat (first|refine jS ?_|refine jD ?_|refine jB ?_)
 )
 all_goals refine jBb [0,1] hc ?_
 all_goals (
  repeat (first|refine jS ?_|refine jD ?_|refine jB ?_|refine jo rfl rfl (append_text rfl rfl rfl rfl rfl rfl rfl rfl rfl rfl rfl he hlen) rfl rfl ?_)
 )
 all_goals rw [←List.map_append]
 all_goals exact jR
theorem wbyte_gB (u:Bool) (g:Nat) (l:Bs) (c:UInt8) (hl:l.length≤1000000):ACalls Tryz.prog 107 [.ptr 0 0,.v (.int .u8 c.toNat)] (bldHB u g l) (one (.v .nilIface) (bldHB true (g+1) (l++[c]))):=by
 have hc:=cc_okB u g l
 unfold bldHB at *
 cases u
 all_goals refine jC Tryz.func107 Tryz.ntmps107 (fun w0 β0 ext hβ=>?_)
 all_goals (
  repeat (first|refine jS ?_|refine jD ?_|refine jB ?_)
 )
 all_goals refine jBb [0,1] hc ?_
 all_goals (
  repeat (first|refine jo rfl rfl (append_enc (enc:=encB) (l:=l) c rfl rfl rfl rfl rfl rfl rfl rfl rfl rfl (fun _=>⟨rfl,rfl⟩) rfl (by omega) rfl rfl) rfl rfl ?_|refine jS ?_|refine jD ?_|refine jB ?_)
 )
 all_goals exact jR
def bldB (u:Bool) (l:Bs):List AObj:=bldHB u (l.length+1) l
theorem wstr_okB (u:Bool) (l s:Bs) (hs:0 < s.length) (hl:l.length+s.length≤1000000000):ACalls Tryz.prog 39 [.ptr 0 0,sv s] (bldB u l) (one (.tup [iv s.length,.v .nilIface]) (bldB true (l++s))) :=
 bld_regenB (plainT _ _) (wstr_gB u (l.length+1) l s hl) (by rw [List.length_append];omega)
theorem wbyte_okB (u:Bool) (l:Bs) (c:UInt8) (hl:l.length≤1000000):ACalls Tryz.prog 107 [.ptr 0 0,.v (.int .u8 c.toNat)] (bldB u l) (one (.v .nilIface) (bldB true (l++[c]))) :=
 bld_regenB (plainI _) (wbyte_gB u (l.length+1) l c hl) (by simp)
theorem str_okB (u:Bool) (l:Bs) (h0:l≠[]) (h63:l.length≤1000000000):ACalls Tryz.prog 45 [.ptr 0 0] (bldB u l) (one (sv l) [.box 127 [adr u,.arr 1 (l.length+1)],.dead (l.length+2)]):=by
 unfold bldB bldHB
 refine ⟨⟨_,Tryz.func45,by kernel_rfl,by kernel_rfl⟩,fun ext w β us hI hx hr=>?_⟩
 obtain ⟨x,us',rfl,r0,rfl⟩:=hr
 obtain ⟨e,b,vs,he,hb,rfl,hc,hrl,hone,hg0⟩:=box_of hI (j:=0) rfl r0
 obtain ⟨p,vs1,hvs,rp,s,vs2,rfl,rs,rfl⟩:=hrl
 obtain rfl:=cellsB hvs
 obtain ⟨e1,h1,q1,q0,q2,q3,q4,q5⟩:=arr_open hI (j:=1) rfl rs
 have hl0:0 < l.length:=List.length_pos_iff.2 h0
 rw [List.length_map] at q3 q4
 rcases q5 with ⟨_,hn,_⟩|⟨bk,cs,hbk,rfl,hcs,hsz,hrow⟩
 ·exact absurd (List.map_eq_nil_iff.1 hn) h0
 rw [Nat.mul_one] at hsz
 rw [List.length_map] at hc
 refine (bstr_rowB b bk e1.cap p cs l w hc hcs h0 (by omega) hsz (by omega) fun j c hj=>?_).mono fun en w' ⟨k1,k2⟩=>?_
 ·obtain ⟨v,hv1,hv2,hv3⟩:=hrow.get (i:=j) (a:=encB c) (by rw [List.getElem?_map,hj];rfl)
  have hv:v = .int .u8 c.toNat:=hv1
  subst hv
  have h9:=hv3 0 (by omega)
  simp only [Nat.zero_add,Nat.mul_one,Nat.add_zero] at h9
  exact h9.trans rfl
 ·subst k1;subst k2
  have hS1:Step w β w.drew β:=(drew_same w).step β
  have hS2:Step w.drew β (w.drew.freeze ⟨bk,0,none⟩ l.length) β:=Step.write ⟨1,e1,h1,hbk⟩ (freeze_size _ _ _) (fun c hc=>freeze_other _ _ _ hc) (by unfold World.freeze;split<;>rfl) (by unfold World.freeze;split<;>rfl) (by unfold World.freeze;split<;>rfl)
  have hS3:Step (w.drew.freeze ⟨bk,0,none⟩ l.length) β (w.drew.freeze ⟨bk,0,none⟩ l.length) (β.set 1 ⟨none,l.length+2,1,0,0⟩):=Step.regen h1 (by omega) (by simp only;omega) (.inl rfl)
  have hS:=(hS1.trans hS2).trans hS3
  refine ⟨_,_,_,⟨rfl,rfl⟩,rfl,hI.set (a:=.dead (l.length+2)) hx h1 hS (fun c hc hne=>?_) (.inr (.inl rfl)) ⟨rfl,by omega,rfl⟩,hS⟩
  exact (freeze_other _ _ _ (fun e=>hne (by rw [hbk,e]))).trans rfl
end Go.AL
end
section
set_option maxRecDepth 100000
namespace Go.AL
open Go Go.Proofs
attribute [local irreducible] J
end Go.AL
end
section
set_option maxRecDepth 100000
namespace Go.AL
open Go Go.Proofs
theorem g0_mkTags {tags:List Int} {k n:Nat} {tag:Int} (h:k+n≤tags.length) (q:Nat):g0 (mkTags tags k n tag) q=if k≤q∧q < k+n then tag else g0 tags q:=by
 unfold mkTags g0
 simp only [List.getD_eq_getElem?_getD]
 by_cases h1:q < k
 ·rw [if_neg (by omega),List.append_assoc,List.getElem?_append_left (by simp;omega),List.getElem?_take_of_lt h1]
 ·by_cases h2:q < k+n
  ·rw [if_pos (by omega),List.getElem?_append_left (by simp;omega),List.getElem?_append_right (by simp;omega),List.getElem?_replicate,if_pos (by simp;omega)]
   rfl
  ·rw [if_neg (by omega),List.getElem?_append_right (by simp;omega),List.getElem?_drop]
   congr 2
   simp;omega
structure Had (m m':Mem) (k n:Nat):Prop where
 right:mRight m'=true
 words:m'.words=m.words
 len:m'.tags.length=m'.words.length
 fits:k+n≤m'.words.length
 inside:∀ q,k≤q→q < k+n→g0 m'.tags q=1
 outside:∀ q,¬(k≤q∧q < k+n)→g0 m'.tags q=g0 m.tags q
 was:∀ q,k≤q→q < k+n→g0 m.tags q≠1
theorem mkBad_zero {tags:List Int} {k:Nat}:∀ n,mkBad tags k 1 n=0→∀ q,q < n→g0 tags (k+q)≠1
 | 0,_,q,hq=>absurd hq (by omega)
 | n+1,h,q,hq=>by
  unfold mkBad at h
  cases h1:decide (mkBad tags k 1 n=0) with
  | false=>rw [h1] at h;exact absurd h (of_decide_eq_false h1)
  | true =>
   rw [h1] at h
   have ih:=mkBad_zero n (of_decide_eq_true h1)
   by_cases e:q=n
   ·subst e
    intro e2
    rw [cond_true,e2] at h
    exact absurd h (by decide)
   ·exact ih q (by omega)
theorem mMark_had {m:Mem} {k n:Int} (hr:mRight m=true) (h:(mMark m k n 1).2=0):0≤k∧1≤n∧Had m (mMark m k n 1).1 k.toNat n.toNat:=by
 obtain ⟨r1,r2⟩:=mMark_right hr (.inl rfl) h
 obtain ⟨s1,s2,s3,s4⟩:=(mRight_iff m).1 hr
 obtain ⟨t1,t2,t3,t4⟩:=(mRight_iff _).1 r1
 unfold mMark at h r1 t3 ⊢
 cases hc:(decide (1≤n)&&(inn k 0 (m.words.length-1)&&decide (n≤m.words.length-k))) with
 | false=>rw [hc] at h;cases h
 | true =>
  rw [hc] at h r1 t3
  simp only [Bool.and_eq_true,decide_eq_true_eq,inn_iff] at hc
  cases hb:decide (mkBad m.tags k.toNat 1 n.toNat=0) with
  | false =>
   rw [hb] at h
   exact absurd h (of_decide_eq_false hb)
  | true =>
   rw [hb] at r1 t3
   have hle:k.toNat+n.toNat≤m.tags.length:=by omega
   simp only [cond_true] at r1 t3 ⊢
   refine ⟨hc.2.1.1,hc.1,r1,rfl,t3,by show k.toNat+n.toNat≤m.words.length;omega,fun q h1 h2=>?_,fun q hq=>?_,fun q h1 h2=>?_⟩
   ·show g0 (mkTags m.tags k.toNat n.toNat 1) q=1
    rw [g0_mkTags hle,if_pos ⟨h1,h2⟩]
   ·show g0 (mkTags m.tags k.toNat n.toNat 1) q=_
    rw [g0_mkTags hle,if_neg hq]
   ·have:=mkBad_zero _ (of_decide_eq_true hb) (q-k.toNat) (by omega)
    rw [show k.toNat+(q-k.toNat)=q by omega] at this
    exact this
theorem use_live {m:Mem} {q:Nat} (h:q < m.words.length) (h1:g0 m.tags q=1):mUse m (q:Int)=0:=by
 unfold mUse
 rw [inn_iff.2 ⟨by omega,by omega⟩]
 show why (g0 m.tags ((q:Int)).toNat)=0
 rw [show ((q:Int)).toNat=q by omega,h1];rfl
theorem store_live {m:Mem} {q:Nat} {v:Int} (h:q < m.words.length) (h1:g0 m.tags q=1):mStore m (q:Int) v=(⟨m.words.set q v,m.tags⟩,0):=by
 unfold mStore
 rw [decide_eq_true (use_live h h1),show ((q:Int)).toNat=q by omega];rfl
def stL:List Int→Nat→List Int→List Int
 | ws,_,[]=>ws
 | ws,k,x::xs=>stL (ws.set k x) (k+1) xs
theorem stL_len:∀ (xs ws:List Int) (k:Nat),(stL ws k xs).length=ws.length
 | [],ws,k=>rfl
 | x::xs,ws,k=>by unfold stL;rw [stL_len xs];simp
theorem stL_snoc:∀ (xs ws:List Int) (k:Nat) (x:Int),stL ws k (xs++[x])=(stL ws k xs).set (k+xs.length) x
 | [],ws,k,x=>rfl
 | y::xs,ws,k,x=>by
  show stL (ws.set k y) (k+1) (xs++[x])=_
  rw [stL_snoc xs]
  show _=(stL (ws.set k y) (k+1) xs).set _ _
  congr 1
  simp;omega
end Go.AL
end
section
set_option maxRecDepth 100000
namespace Go.AL
open Go Go.Proofs Go.RowKit
theorem cc_freshL (b:Nat) (w:World) (h0:w.cell? ⟨b,0,none⟩=some (.pointer none)) (hsh:w.shape? b=some (129,4)) (hfz:w.frozen? ⟨b,0,none⟩=false) :
  Calls Tryz.prog 80 #[.pointer (some ⟨b,0,none⟩)] w fun e w'=>e = .returned (.tuple #[])∧w'=w.setCell ⟨b,0,none⟩ (.pointer (some ⟨b,0,none⟩)):=by
 obtain ⟨j,hj,hjs⟩:=Option.map_eq_some_iff.1 (show (Tryz.prog.info? 86).map (·.size)=some 2 by kernel_rfl)
 go_enter Tryz.func80,Tryz.ntmps80
 go_wp2
 rw [Lib.run_to_unsafe w ⟨b,0,none⟩ Tryz.underlying83 Tryz.underlying183 hj (by rw [hjs];decide) hsh (Nat.zero_lt_succ _)]
 simp only [Result.andThen]
 rw [Oper.upon_value]
 go_wp2
 rw [run_callFunc_extern Tryz.func115 (by kernel_rfl) (by kernel_rfl) (by kernel_rfl) (e:=Extern.AbiNoEscape.same) (by kernel_rfl)]
 rw [Lib.run_noEscape]
 simp only [Result.andThen]
 rw [Oper.upon_value]
 go_wp2
 rw [Lib.run_from_unsafe w ⟨b,0,none⟩ Tryz.underlying183 Tryz.underlying83 hj hsh (by kernel_rfl)]
 simp only [Result.andThen]
 rw [Oper.upon_value]
 go_wp2
 go_end0
 exact ⟨rfl,rfl⟩
theorem bstr_rowL (b g cap:Nat) (p y0 y1:Value) (cur:Array Value) (l:List UInt8) (w:World) (hbk:w.heap[b]? = some (.cells #[p,.slice (some ⟨g,0,none⟩) l.length cap,y0,y1] 129 (0,0))) (hg:w.heap[g]? = some (.cells cur 5 (0,0)))
  (h0:l≠[]) (hcap:l.length≤cap) (hcur:cur.size=cap) (h63:l.length≤9223372036854775807) (hc:∀ (j:Nat) (x:UInt8),l[j]? = some x→cur[j]? = some (Value.int .u8 x.toNat)) :
  Calls Tryz.prog 45 #[.pointer (some ⟨b,0,none⟩)] w fun e w'=>e = .returned (.string ⟨l.toArray⟩)∧w'=w.drew.freeze ⟨g,0,none⟩ l.length:=by
 have hl0:0 < l.length:=List.length_pos_iff.2 h0
 have c1:w.drew.cell? ⟨b,1,none⟩=some (.slice (some ⟨g,0,none⟩) l.length cap):=by
  have:w.drew.heap[b]? = some (.cells #[p,.slice (some ⟨g,0,none⟩) l.length cap,y0,y1] 129 (0,0)):=hbk
  rw [Lib.cell_of_heap this];rfl
 have hSD:(Builtin.unsafeSliceData_ #[84] 154 #[.slice (some ⟨g,0,none⟩) l.length cap]).run Tryz.prog w.drew = .ok (.pointer (some ⟨g,0,none⟩)) w.drew :=
  Lib.run_unsafeSliceData_row _ _ _ _ _ _ (by omega)
 have hUS:(Builtin.unsafeString_ #[154,3] 9 #[.pointer (some ⟨g,0,none⟩),.int .i64 l.length]).run Tryz.prog w.drew = .ok (.string ⟨l.toArray⟩) (w.drew.freeze ⟨g,0,none⟩ l.length):=by
  refine Lib.run_unsafeString_row w.drew 154 3 9 5 Tryz.underlying154 (by kernel_rfl) g cur.size (by have hg':w.drew.heap[g]? = some (.cells cur 5 (0,0)):=hg;simp [World.shape?,hg']) l h0 (by omega) h63 ?_
  intro j x hx
  have hg':w.drew.heap[g]? = some (.cells cur 5 (0,0)):=hg
  have:=hc j x hx
  simp only [Addr.add_lit,Nat.zero_add]
  rw [Lib.cell_of_heap hg']
  exact this
 go_enter Tryz.func45,Tryz.ntmps45
 go_wp2
 go_region
 all_goals (go_wp2;go_ret;exact ⟨rfl,rfl⟩)
attribute [local irreducible] J
def bldHL (fa fb:FuncId) (u:Bool) (g:Nat) (l:Bs):List AObj:=[.box 129 [adr u,.arr 1 g,.fn (.func fa) [] [],.fn (.func fb) [] []],.arr g 5 1 (l.map encB)]
theorem cellsL {vs:Array Value} {p s y0 y1:Value} (h:vs.toList=[p,s,y0,y1]):vs = #[p,s,y0,y1]:=by
 apply Array.ext';simpa using h
theorem cc_okL (fa fb:FuncId) (u:Bool) (g:Nat) (l:Bs):ACalls Tryz.prog 80 [.ptr 0 0] (bldHL fa fb u g l) (one (.tup []) (bldHL fa fb true g l)):=by
 refine ⟨⟨_,Tryz.func80,by kernel_rfl,by kernel_rfl⟩,fun ext w β us hI hx hr=>?_⟩
 obtain ⟨x,us',rfl,r0,rfl⟩:=hr
 obtain ⟨e,b,vs,he,hb,rfl,hc,hrl,hone,h0⟩:=box_of hI (j:=0) rfl r0
 obtain ⟨p,vs1,hvs,rp,s,vs2,rfl,rs,y0,u0,rfl,z0,y1,u1,rfl,z1,rfl⟩:=hrl
 obtain rfl:=cellsL hvs
 have hcell:w.cell? ⟨b,0,none⟩=some p:=by simp [World.cell?,hc]
 have hlt:b < w.heap.size:=(Array.getElem?_eq_some_iff.1 hc).1
 cases u with
 | true =>
  obtain ⟨e',b',he',h0',hb',rfl⟩:=rp
  rw [he] at he'
  obtain rfl:=Option.some.inj he'
  rw [hb] at hb'
  obtain rfl:=Option.some.inj hb'
  refine (cc_used b w hcell).mono fun en w' ⟨h1,h2⟩=>?_
  subst h1;subst h2
  exact ⟨.tup [],_,β,⟨rfl,rfl⟩,⟨#[],rfl,rfl⟩,hI,Step.refl _ _⟩
 | false =>
  have hp:p = .pointer none:=rp
  subst hp
  refine (cc_freshL b w hcell (by simp [World.shape?,hc]) (by simp [World.frozen?,hc])).mono fun en w' ⟨h1,h2⟩=>?_
  subst h1;subst h2
  have k1:(w.setCell ⟨b,0,none⟩ (.pointer (some ⟨b,0,none⟩))).heap[b]? = some (.cells #[.pointer (some ⟨b,0,none⟩),s,y0,y1] 129 (0,0)):=by
   simp [World.setCell,Array.getElem?_modify,hc]
  have k2:∀ c,c≠b→(w.setCell ⟨b,0,none⟩ (.pointer (some ⟨b,0,none⟩))).heap[c]? = w.heap[c]?:=fun c hne=>RowKit.Below.heap_setCell _ _ _ _ hne
  have k3:(w.setCell ⟨b,0,none⟩ (.pointer (some ⟨b,0,none⟩))).heap.size=w.heap.size:=by simp [World.setCell]
  have hst:Step w β (w.setCell ⟨b,0,none⟩ (.pointer (some ⟨b,0,none⟩))) β:=Step.write ⟨0,e,he,hb⟩ k3 k2 rfl rfl rfl
  have hI':=hI.write (a:=.box 129 [.ptr 0 0,.arr 1 g,.fn (.func fa) [] [],.fn (.func fb) [] []]) he hb k3 k2 rfl rfl rfl ⟨h0,rfl,b,_,hb,k1,_,_,rfl,⟨e,b,he,h0,hb,rfl⟩,_,_,rfl,rs.le (hst.le (ext:=ext)),_,_,rfl,z0.le (hst.le (ext:=ext)),_,_,rfl,z1.le (hst.le (ext:=ext)),rfl⟩
  exact ⟨.tup [],_,β,⟨rfl,rfl⟩,⟨#[],rfl,rfl⟩,hI',hst⟩
theorem bld_regenL (fa fb:FuncId) {f:FuncId} {args:List AVal} {H:List AObj} {v:AVal} {g g':Nat} {l:Bs} (hv:∀ c c' u,Rel c v u→Rel c' v u) (h:ACalls Tryz.prog f args H (one v (bldHL fa fb true g l))) (hg:g≤g'):ACalls Tryz.prog f args H (one v (bldHL fa fb true g' l)):=by
 rcases Nat.eq_or_lt_of_le hg with rfl|hlt
 ·exact h
 refine ⟨h.enters,fun ext w β us hI hx hr=>(h.calls ext w β us hI hx hr).mono fun en w' he=>?_⟩
 cases en with
 | returned u =>
  obtain ⟨v',H',β',⟨h1,rfl⟩,h2,h3,h4⟩:=he
  injection h1 with h1
  subst h1
  have hl:β'.length=2:=h3.len
  obtain ⟨e0,h0⟩:∃ e0,β'[0]? = some e0:=⟨_,List.getElem?_eq_getElem (by omega)⟩
  obtain ⟨e1,h1⟩:∃ e1,β'[1]? = some e1:=⟨_,List.getElem?_eq_getElem (by omega)⟩
  obtain ⟨q1,q0,q2,q3,q4,q5⟩:=h3.obj 1 _ e1 rfl h1
  obtain ⟨p1,p2,b,vs,hb,hc,p,vs1,hvs,rp,s,vs2,rfl,rs,y0,u0,rfl,z0,y1,u1,rfl,z1,rfl⟩:=h3.obj 0 _ e0 rfl h0
  obtain ⟨e2,f1,f2,f3,f4,f5⟩:∃ e2:Ent,e2.blk=e1.blk∧e2.gen=g'∧e2.es=e1.es∧e2.cap=e1.cap∧e2.len=e1.len:=⟨{ e1 with gen:=g' },rfl,rfl,rfl,rfl,rfl⟩
  have hreg:Step w' β' w' (β'.set 1 e2):=Step.regen h1 (by omega) (by omega) (.inr f1)
  have hxt:∀ b,ext b→b < w'.heap.size:=fun b hb=>Nat.lt_of_lt_of_le (hx b hb) h4.size
  have hI1:=h3.set (a:=.arr g' 5 1 (l.map encB)) hxt h1 hreg (fun _ _ _=>rfl) (.inr (.inr f1)) ⟨f2,by omega,f3.trans q2,f5.trans q3,by rw [f4];exact q4,by
   rw [f1,f4]
   cases hk:e1.blk with
   | none=>rw [hk] at q5;exact q5
   | some bk =>
    rw [hk] at q5
    obtain ⟨cs,x1,x2,x3⟩:=q5
    exact ⟨cs,x1,x2,x3.le (hreg.le (ext:=ext)).bare _ _ _ _⟩⟩
  have h0':(β'.set 1 e2)[0]? = some e0:=by rw [List.getElem?_set_ne (by omega)];exact h0
  have h1':(β'.set 1 e2)[1]? = some e2:=List.getElem?_set_self (by omega)
  obtain ⟨rs1,ee,rs2,rs3,rs4⟩:=rs
  rw [h1] at rs2
  obtain rfl:=Option.some.inj rs2
  have rsn:Rel (ctx ext w' (β'.set 1 e2)) (.arr 1 g') s:=by
   obtain ⟨x1,x2⟩:=rs4 q1
   exact ⟨rs1,_,h1',by omega,fun _=>⟨by omega,by rw [f1,f4,f5];exact x2⟩⟩
  have hI2:=hI1.write (w':=w') (a:=.box 129 [.ptr 0 0,.arr 1 g',.fn (.func fa) [] [],.fn (.func fb) [] []]) h0' hb rfl (fun _ _=>rfl) rfl rfl rfl ⟨p1,rfl,b,vs,hb,hc,p,_,hvs,rp.le (hreg.le (ext:=ext)),s,_,rfl,rsn,y0,_,rfl,z0.le (hreg.le (ext:=ext)),y1,_,rfl,z1.le (hreg.le (ext:=ext)),rfl⟩
  exact ⟨_,_,_,⟨rfl,rfl⟩,hv _ _ _ h2,hI2,h4.trans hreg⟩
 | panicked ch=>obtain ⟨u,_,v',H',β',⟨h1,_⟩,_⟩:=he;cases h1
 | outgrown=>exact he.elim
theorem wstr_gL (fa fb:FuncId) (u:Bool) (g:Nat) (l s:Bs) (hl:l.length+s.length≤1000000000):ACalls Tryz.prog 39 [.ptr 0 0,sv s] (bldHL fa fb u g l) (one (.tup [iv s.length,.v .nilIface]) (bldHL fa fb true (g+1) (l++s))):=by
 have hc:=cc_okL fa fb u g l
 have hlen:(l.map encB).length+s.length≤140737488355328:=by rw [List.length_map];omega
 have he:=encB_elems l
 unfold bldHL at *
 cases u
 all_goals refine jC Tryz.func39 Tryz.ntmps39 (fun w0 β0 ext hβ=>?_)
 all_goals (
  repeat (first|refine jS ?_|refine jD ?_|refine jB ?_)
 )
 all_goals refine jBb [0,1] hc ?_
 all_goals (
  repeat (first|refine jS ?_|refine jD ?_|refine jB ?_|refine jo rfl rfl (append_text rfl rfl rfl rfl rfl rfl rfl rfl rfl rfl rfl he hlen) rfl rfl ?_)
 )
 all_goals rw [←List.map_append]
 all_goals exact jR
theorem wbyte_gL (fa fb:FuncId) (u:Bool) (g:Nat) (l:Bs) (c:UInt8) (hl:l.length≤1000000):ACalls Tryz.prog 107 [.ptr 0 0,.v (.int .u8 c.toNat)] (bldHL fa fb u g l) (one (.v .nilIface) (bldHL fa fb true (g+1) (l++[c]))):=by
 have hc:=cc_okL fa fb u g l
 unfold bldHL at *
 cases u
 all_goals refine jC Tryz.func107 Tryz.ntmps107 (fun w0 β0 ext hβ=>?_)
 all_goals (
  repeat (first|refine jS ?_|refine jD ?_|refine jB ?_)
 )
 all_goals refine jBb [0,1] hc ?_
 all_goals (
  repeat (first|refine jo rfl rfl (append_enc (enc:=encB) (l:=l) c rfl rfl rfl rfl rfl rfl rfl rfl rfl rfl (fun _=>⟨rfl,rfl⟩) rfl (by omega) rfl rfl) rfl rfl ?_|refine jS ?_|refine jD ?_|refine jB ?_)
 )
 all_goals exact jR
def bldL (fa fb:FuncId) (u:Bool) (l:Bs):List AObj:=bldHL fa fb u (l.length+1) l
theorem wstr_okL (fa fb:FuncId) (u:Bool) (l s:Bs) (hs:0 < s.length) (hl:l.length+s.length≤1000000000):ACalls Tryz.prog 39 [.ptr 0 0,sv s] (bldL fa fb u l) (one (.tup [iv s.length,.v .nilIface]) (bldL fa fb true (l++s))) :=
 bld_regenL fa fb (plainT _ _) (wstr_gL fa fb u (l.length+1) l s hl) (by rw [List.length_append];omega)
theorem wbyte_okL (fa fb:FuncId) (u:Bool) (l:Bs) (c:UInt8) (hl:l.length≤1000000):ACalls Tryz.prog 107 [.ptr 0 0,.v (.int .u8 c.toNat)] (bldL fa fb u l) (one (.v .nilIface) (bldL fa fb true (l++[c]))) :=
 bld_regenL fa fb (plainI _) (wbyte_gL fa fb u (l.length+1) l c hl) (by simp)
theorem str_okL (fa fb:FuncId) (u:Bool) (l:Bs) (h0:l≠[]) (h63:l.length≤1000000000):ACalls Tryz.prog 45 [.ptr 0 0] (bldL fa fb u l) (one (sv l) [.box 129 [adr u,.arr 1 (l.length+1),.fn (.func fa) [] [],.fn (.func fb) [] []],.dead (l.length+2)]):=by
 unfold bldL bldHL
 refine ⟨⟨_,Tryz.func45,by kernel_rfl,by kernel_rfl⟩,fun ext w β us hI hx hr=>?_⟩
 obtain ⟨x,us',rfl,r0,rfl⟩:=hr
 obtain ⟨e,b,vs,he,hb,rfl,hc,hrl,hone,hg0⟩:=box_of hI (j:=0) rfl r0
 obtain ⟨p,vs1,hvs,rp,s,vs2,rfl,rs,y0,u0,rfl,z0,y1,u1,rfl,z1,rfl⟩:=hrl
 obtain rfl:=cellsL hvs
 obtain ⟨e1,h1,q1,q0,q2,q3,q4,q5⟩:=arr_open hI (j:=1) rfl rs
 have hl0:0 < l.length:=List.length_pos_iff.2 h0
 rw [List.length_map] at q3 q4
 rcases q5 with ⟨_,hn,_⟩|⟨bk,cs,hbk,rfl,hcs,hsz,hrow⟩
 ·exact absurd (List.map_eq_nil_iff.1 hn) h0
 rw [Nat.mul_one] at hsz
 rw [List.length_map] at hc
 refine (bstr_rowL b bk e1.cap p y0 y1 cs l w hc hcs h0 (by omega) hsz (by omega) fun j c hj=>?_).mono fun en w' ⟨k1,k2⟩=>?_
 ·obtain ⟨v,hv1,hv2,hv3⟩:=hrow.get (i:=j) (a:=encB c) (by rw [List.getElem?_map,hj];rfl)
  have hv:v = .int .u8 c.toNat:=hv1
  subst hv
  have h9:=hv3 0 (by omega)
  simp only [Nat.zero_add,Nat.mul_one,Nat.add_zero] at h9
  exact h9.trans rfl
 ·subst k1;subst k2
  have hS1:Step w β w.drew β:=(drew_same w).step β
  have hS2:Step w.drew β (w.drew.freeze ⟨bk,0,none⟩ l.length) β:=Step.write ⟨1,e1,h1,hbk⟩ (freeze_size _ _ _) (fun c hc=>freeze_other _ _ _ hc) (by unfold World.freeze;split<;>rfl) (by unfold World.freeze;split<;>rfl) (by unfold World.freeze;split<;>rfl)
  have hS3:Step (w.drew.freeze ⟨bk,0,none⟩ l.length) β (w.drew.freeze ⟨bk,0,none⟩ l.length) (β.set 1 ⟨none,l.length+2,1,0,0⟩):=Step.regen h1 (by omega) (by simp only;omega) (.inl rfl)
  have hS:=(hS1.trans hS2).trans hS3
  refine ⟨_,_,_,⟨rfl,rfl⟩,rfl,hI.set (a:=.dead (l.length+2)) hx h1 hS (fun c hc hne=>?_) (.inr (.inl rfl)) ⟨rfl,by omega,rfl⟩,hS⟩
  exact (freeze_other _ _ _ (fun e=>hne (by rw [hbk,e]))).trans rfl
end Go.AL
end
section
set_option maxRecDepth 100000
namespace Go.AL
open Go Go.Proofs
attribute [local irreducible] J
def spT:Bs:=[108,111,99,107,58,10,115,101,116,32,114,49,32,48,10,115,101,116,32,114,50,32,49,10,99,97,115,32,114,49,32,114,48,32,114,50,10,122,101,114,111,32,114,49,32,108,111,99,107,101,100,10,119,97,105,116,32,114,49,32,114,48,10,106,117,109,112,32,108,111,99,107,10,108,111,99,107,101,100,58,10,114,101,116,10,117,110,108,111,99,107,58,10,115,101,116,32,114,49,32,48,10,120,99,104,103,32,114,49,32,114,48,10,114,101,116,10]
def haltT1:Bs:=[104,97,108,116,10]
theorem spT_eq:ltx spC=spT:=by decide +kernel
theorem haltT1_eq:ltx kH=haltT1:=by decide +kernel
end Go.AL
end
section
set_option maxRecDepth 100000
namespace Go.AL
open Go Go.Proofs
attribute [local irreducible] J
theorem ltx_snoc (l:List Bs) (s:Bs):ltx (l++[s])=ltx l++s++[10]:=by rw [ltx_app,ltx_cons];simp [ltx]
theorem ltx_take {ss:List Bs} {q:Nat} (h:q < ss.length):ltx (ss.take (q+1))=ltx (ss.take q)++at' ss (q:Int)++[10]:=by
 rw [List.take_succ_eq_append_getElem h,ltx_snoc,at_nat ss q h]
theorem ltx_le {ss:List Bs} {q:Nat} (h:q < ss.length):(ltx (ss.take q)).length+(at' ss (q:Int)).length+1≤(ltx ss).length:=by
 have:ltx ss=ltx (ss.take (q+1))++ltx (ss.drop (q+1)):=by rw [←ltx_app,List.take_append_drop]
 rw [this,ltx_take h]
 simp only [List.length_append,List.length_singleton]
 omega
def lnHB (u:Bool) (l:Bs) (ss:List Bs):Nat→List AObj
 | 0=>bldB u l
 | q+1=>bldB true (l++ltx (ss.take (q+1)))
theorem lines_B (u:Bool) (l:Bs) (ss:List Bs) (hne:ss≠[]) (hs:∀ s∈ss,s≠[]) (hl:l.length+(ltx ss).length≤100000) :
  ACalls Tryz.prog 66 [.ptr 0 0,.sl (ss.map sv)] (bldB u l) (one (.tup []) (bldB true (l++ltx ss))):=by
 have hsz:ss.length≤(ltx ss).length:=by
  clear hne hs hl
  induction ss with
  | nil=>exact Nat.zero_le _
  | cons x xs ih=>rw [ltx_cons];simp only [List.length_append,List.length_cons,List.length_nil];omega
 have hstep:∀ q,q < ss.length→∃ u' l',lnHB u l ss q=bldB u' l'∧(l'++at' ss (q:Int))++[10]=l++ltx (ss.take (q+1))∧l'.length+(at' ss (q:Int)).length+1≤100000:=fun q hq=>by
  have h1:=ltx_le hq
  cases q with
  | zero=>exact ⟨u,l,rfl,by rw [ltx_take hq];simp [ltx],by have:(ltx (ss.take 0)).length=0:=rfl;omega⟩
  | succ q=>exact ⟨true,l++ltx (ss.take (q+1)),rfl,by rw [ltx_take hq];simp,by rw [List.length_append];omega⟩
 have hend:lnHB u l ss ss.length=bldB true (l++ltx ss):=by
  have hp:=List.length_pos_iff.2 hne
  obtain ⟨k,hk⟩:∃ k,ss.length=k+1:=⟨ss.length-1,by omega⟩
  rw [hk]
  show bldB true (l++ltx (ss.take (k+1)))=_
  rw [←hk,List.take_length]
 have hbeg:bldB u l=lnHB u l ss 0:=rfl
 have hin:∃ a b c,bldB u l=[a,b]++c:=⟨_,_,[],rfl⟩
 unfold bldB bldHB
 cases u
 ·refine jC Tryz.func66 Tryz.ntmps66 (fun w0 β0 ext hβ=>?_)
  repeat (first|refine jS ?_|refine jD ?_|refine jB ?_)
  refine jloopI (fun q:Nat=>q≤ss.length) [0,6,7,8] (fun q=>[.ptr 0 0,.sl (ss.map sv),.v (.int .i64 ((ss.map sv).length:Int)),.v (.int .i64 (q:Int))]) (fun q=>lnHB false l ss q) (fun q=>ss.length-q) 0 (Nat.zero_le _) rfl rfl (fun q hq=>?_)
  repeat (first|refine jS ?_|refine jD ?_|refine jB ?_)
  refine jc rfl rfl rfl (fun h=>?_) (fun h=>?_)
  ·have h:=of_decide_eq_true h
   rw [List.length_map] at h
   have hq2:q < ss.length:=by omega
   have hidx:IntKind.i64.wrap ((q:Int)+1)=((q+1:Nat):Int):=idx_next hq2 (by omega)
   obtain ⟨u',l',e1,e2,e3⟩:=hstep q hq2
   have hs1:0 < (at' ss (q:Int)).length:=List.length_pos_iff.2 (hs _ (by rw [at_nat ss q hq2];exact List.getElem_mem hq2))
   have h1:=wstr_okB u' l' (at' ss (q:Int)) hs1 (by omega)
   have h2:=wbyte_okB true (l'++at' ss (q:Int)) 10 (by rw [List.length_append];omega)
   rw [e2] at h2
   rw [e1]
   unfold bldB bldHB at *
   cases u'
   all_goals (
    repeat (first|refine jS ?_|refine jD ?_|refine jB ?_|refine jI (Int.natCast_nonneg q) h ?_)
   )
   all_goals (generalize at' ss (q:Int)=s at *)
   all_goals refine jBb [0,1] h1 ?_
   all_goals (
    repeat (first|refine jS ?_|refine jD ?_|refine jB ?_)
   )
   all_goals refine jBb [0,1] h2 ?_
   all_goals (
    repeat (first|refine jS ?_|refine jD ?_|refine jB ?_)
   )
   all_goals refine jnextI (q+1) hq2 ?_ rfl (by omega)
   all_goals (show some _=some _)
   all_goals rw [hidx]
  ·have h:=of_decide_eq_false h
   rw [List.length_map] at h
   have:q=ss.length:=by omega
   subst this
   rw [hend]
   unfold bldB bldHB at *
   repeat (first|refine jS ?_|refine jD ?_|refine jB ?_)
   exact jend [] true rfl rfl rfl ⟨rfl,rfl⟩
 ·refine jC Tryz.func66 Tryz.ntmps66 (fun w0 β0 ext hβ=>?_)
  repeat (first|refine jS ?_|refine jD ?_|refine jB ?_)
  refine jloopI (fun q:Nat=>q≤ss.length) [0,6,7,8] (fun q=>[.ptr 0 0,.sl (ss.map sv),.v (.int .i64 ((ss.map sv).length:Int)),.v (.int .i64 (q:Int))]) (fun q=>lnHB true l ss q) (fun q=>ss.length-q) 0 (Nat.zero_le _) rfl rfl (fun q hq=>?_)
  repeat (first|refine jS ?_|refine jD ?_|refine jB ?_)
  refine jc rfl rfl rfl (fun h=>?_) (fun h=>?_)
  ·have h:=of_decide_eq_true h
   rw [List.length_map] at h
   have hq2:q < ss.length:=by omega
   have hidx:IntKind.i64.wrap ((q:Int)+1)=((q+1:Nat):Int):=idx_next hq2 (by omega)
   obtain ⟨u',l',e1,e2,e3⟩:=hstep q hq2
   have hs1:0 < (at' ss (q:Int)).length:=List.length_pos_iff.2 (hs _ (by rw [at_nat ss q hq2];exact List.getElem_mem hq2))
   have h1:=wstr_okB u' l' (at' ss (q:Int)) hs1 (by omega)
   have h2:=wbyte_okB true (l'++at' ss (q:Int)) 10 (by rw [List.length_append];omega)
   rw [e2] at h2
   rw [e1]
   unfold bldB bldHB at *
   cases u'
   all_goals (
    repeat (first|refine jS ?_|refine jD ?_|refine jB ?_|refine jI (Int.natCast_nonneg q) h ?_)
   )
   all_goals (generalize at' ss (q:Int)=s at *)
   all_goals refine jBb [0,1] h1 ?_
   all_goals (
    repeat (first|refine jS ?_|refine jD ?_|refine jB ?_)
   )
   all_goals refine jBb [0,1] h2 ?_
   all_goals (
    repeat (first|refine jS ?_|refine jD ?_|refine jB ?_)
   )
   all_goals refine jnextI (q+1) hq2 ?_ rfl (by omega)
   all_goals (show some _=some _)
   all_goals rw [hidx]
  ·have h:=of_decide_eq_false h
   rw [List.length_map] at h
   have:q=ss.length:=by omega
   subst this
   rw [hend]
   unfold bldB bldHB at *
   repeat (first|refine jS ?_|refine jD ?_|refine jB ?_)
   exact jend [] true rfl rfl rfl ⟨rfl,rfl⟩
def lnHL (fa fb:FuncId) (u:Bool) (l:Bs) (ss:List Bs):Nat→List AObj
 | 0=>bldL fa fb u l
 | q+1=>bldL fa fb true (l++ltx (ss.take (q+1)))
theorem lines_L (fa fb:FuncId) (u:Bool) (l:Bs) (ss:List Bs) (hne:ss≠[]) (hs:∀ s∈ss,s≠[]) (hl:l.length+(ltx ss).length≤100000) :
  ACalls Tryz.prog 66 [.ptr 0 0,.sl (ss.map sv)] (bldL fa fb u l) (one (.tup []) (bldL fa fb true (l++ltx ss))):=by
 have hsz:ss.length≤(ltx ss).length:=by
  clear hne hs hl
  induction ss with
  | nil=>exact Nat.zero_le _
  | cons x xs ih=>rw [ltx_cons];simp only [List.length_append,List.length_cons,List.length_nil];omega
 have hstep:∀ q,q < ss.length→∃ u' l',lnHL fa fb u l ss q=bldL fa fb u' l'∧(l'++at' ss (q:Int))++[10]=l++ltx (ss.take (q+1))∧l'.length+(at' ss (q:Int)).length+1≤100000:=fun q hq=>by
  have h1:=ltx_le hq
  cases q with
  | zero=>exact ⟨u,l,rfl,by rw [ltx_take hq];simp [ltx],by have:(ltx (ss.take 0)).length=0:=rfl;omega⟩
  | succ q=>exact ⟨true,l++ltx (ss.take (q+1)),rfl,by rw [ltx_take hq];simp,by rw [List.length_append];omega⟩
 have hend:lnHL fa fb u l ss ss.length=bldL fa fb true (l++ltx ss):=by
  have hp:=List.length_pos_iff.2 hne
  obtain ⟨k,hk⟩:∃ k,ss.length=k+1:=⟨ss.length-1,by omega⟩
  rw [hk]
  show bldL fa fb true (l++ltx (ss.take (k+1)))=_
  rw [←hk,List.take_length]
 have hbeg:bldL fa fb u l=lnHL fa fb u l ss 0:=rfl
 have hin:∃ a b c,bldL fa fb u l=[a,b]++c:=⟨_,_,[],rfl⟩
 unfold bldL bldHL
 cases u
 ·refine jC Tryz.func66 Tryz.ntmps66 (fun w0 β0 ext hβ=>?_)
  repeat (first|refine jS ?_|refine jD ?_|refine jB ?_)
  refine jloopI (fun q:Nat=>q≤ss.length) [0,6,7,8] (fun q=>[.ptr 0 0,.sl (ss.map sv),.v (.int .i64 ((ss.map sv).length:Int)),.v (.int .i64 (q:Int))]) (fun q=>lnHL fa fb false l ss q) (fun q=>ss.length-q) 0 (Nat.zero_le _) rfl rfl (fun q hq=>?_)
  repeat (first|refine jS ?_|refine jD ?_|refine jB ?_)
  refine jc rfl rfl rfl (fun h=>?_) (fun h=>?_)
  ·have h:=of_decide_eq_true h
   rw [List.length_map] at h
   have hq2:q < ss.length:=by omega
   have hidx:IntKind.i64.wrap ((q:Int)+1)=((q+1:Nat):Int):=idx_next hq2 (by omega)
   obtain ⟨u',l',e1,e2,e3⟩:=hstep q hq2
   have hs1:0 < (at' ss (q:Int)).length:=List.length_pos_iff.2 (hs _ (by rw [at_nat ss q hq2];exact List.getElem_mem hq2))
   have h1:=wstr_okL fa fb u' l' (at' ss (q:Int)) hs1 (by omega)
   have h2:=wbyte_okL fa fb true (l'++at' ss (q:Int)) 10 (by rw [List.length_append];omega)
   rw [e2] at h2
   rw [e1]
   unfold bldL bldHL at *
   cases u'
   all_goals (
    repeat (first|refine jS ?_|refine jD ?_|refine jB ?_|refine jI (Int.natCast_nonneg q) h ?_)
   )
   all_goals (generalize at' ss (q:Int)=s at *)
   all_goals refine jBb [0,1] h1 ?_
   all_goals (
    repeat (first|refine jS ?_|refine jD ?_|refine jB ?_)
   )
   all_goals refine jBb [0,1] h2 ?_
   all_goals (
    repeat (first|refine jS ?_|refine jD ?_|refine jB ?_)
   )
   all_goals refine jnextI (q+1) hq2 ?_ rfl (by omega)
   all_goals (show some _=some _)
   all_goals rw [hidx]
  ·have h:=of_decide_eq_false h
   rw [List.length_map] at h
   have:q=ss.length:=by omega
   subst this
   rw [hend]
   unfold bldL bldHL at *
   repeat (first|refine jS ?_|refine jD ?_|refine jB ?_)
   exact jend [] true rfl rfl rfl ⟨rfl,rfl⟩
 ·refine jC Tryz.func66 Tryz.ntmps66 (fun w0 β0 ext hβ=>?_)
  repeat (first|refine jS ?_|refine jD ?_|refine jB ?_)
  refine jloopI (fun q:Nat=>q≤ss.length) [0,6,7,8] (fun q=>[.ptr 0 0,.sl (ss.map sv),.v (.int .i64 ((ss.map sv).length:Int)),.v (.int .i64 (q:Int))]) (fun q=>lnHL fa fb true l ss q) (fun q=>ss.length-q) 0 (Nat.zero_le _) rfl rfl (fun q hq=>?_)
  repeat (first|refine jS ?_|refine jD ?_|refine jB ?_)
  refine jc rfl rfl rfl (fun h=>?_) (fun h=>?_)
  ·have h:=of_decide_eq_true h
   rw [List.length_map] at h
   have hq2:q < ss.length:=by omega
   have hidx:IntKind.i64.wrap ((q:Int)+1)=((q+1:Nat):Int):=idx_next hq2 (by omega)
   obtain ⟨u',l',e1,e2,e3⟩:=hstep q hq2
   have hs1:0 < (at' ss (q:Int)).length:=List.length_pos_iff.2 (hs _ (by rw [at_nat ss q hq2];exact List.getElem_mem hq2))
   have h1:=wstr_okL fa fb u' l' (at' ss (q:Int)) hs1 (by omega)
   have h2:=wbyte_okL fa fb true (l'++at' ss (q:Int)) 10 (by rw [List.length_append];omega)
   rw [e2] at h2
   rw [e1]
   unfold bldL bldHL at *
   cases u'
   all_goals (
    repeat (first|refine jS ?_|refine jD ?_|refine jB ?_|refine jI (Int.natCast_nonneg q) h ?_)
   )
   all_goals (generalize at' ss (q:Int)=s at *)
   all_goals refine jBb [0,1] h1 ?_
   all_goals (
    repeat (first|refine jS ?_|refine jD ?_|refine jB ?_)
   )
   all_goals refine jBb [0,1] h2 ?_
   all_goals (
    repeat (first|refine jS ?_|refine jD ?_|refine jB ?_)
   )
   all_goals refine jnextI (q+1) hq2 ?_ rfl (by omega)
   all_goals (show some _=some _)
   all_goals rw [hidx]
  ·have h:=of_decide_eq_false h
   rw [List.length_map] at h
   have:q=ss.length:=by omega
   subst this
   rw [hend]
   unfold bldL bldHL at *
   repeat (first|refine jS ?_|refine jD ?_|refine jB ?_)
   exact jend [] true rfl rfl rfl ⟨rfl,rfl⟩
end Go.AL
end
section
set_option maxRecDepth 100000
namespace Go.AL
open Go Go.Proofs
attribute [local irreducible] J
theorem dd_rec {n:Nat} (h:¬n < 10):Lib.decDigits n=Lib.decDigits (n / 10)++Lib.decDigits (n % 10):=by
 rw [Lib.decDigits,dif_neg h,Lib.decDigits_one (by omega:n % 10 < 10)]
theorem digitsN_ok:∀ n:Nat,n≤1000000000→ACalls Tryz.prog 74 [iv n] [] (one (sv (Lib.decDigits n)) []):=by
 intro n
 induction n using Nat.strongRecOn with
 | _ n ih =>
  intro hn
  have hlen:=dd_len 9 n (by omega)
  have hneg:decide ((n:Int) < 0)=false:=decide_eq_false (by omega)
  by_cases h:n < 10
  ·have h10:decide ((n:Int) < 10)=true:=decide_eq_true (by omega)
   have hw:IntKind.u8.wrap (IntKind.i64.wrap (48+(n:Int)))=((UInt8.ofNat (48+n)).toNat:Int):=by
    rw [(dgt_of n h).2,wrap_id (by omega) (by omega)]
    have:∀ m:Nat,m < 10→IntKind.u8.wrap (48+(m:Int))=((48+m:Nat):Int):=by decide
    exact this n h
   rw [Lib.decDigits_one h]
   refine jC Tryz.func74 Tryz.ntmps74 (fun w0 β0 ext hβ=>?_)
   repeat (first|refine jS ?_|refine jD ?_|refine jB ?_)
   rw [hneg]
   repeat (first|refine jS ?_|refine jD ?_|refine jB ?_)
   rw [h10]
   repeat (first|refine jS ?_|refine jD ?_|refine jB ?_)
   rw [hw]
   repeat (first|refine jS ?_|refine jD ?_|refine jB ?_|refine jo rfl rfl (conv_byte (UInt8.ofNat (48+n)) rfl rfl rfl rfl rfl rfl rfl rfl rfl) rfl rfl ?_)
   exact jR
  ·have h10:decide ((n:Int) < 10)=false:=decide_eq_false (by omega)
   have i1:=ih (n / 10) (by omega) (by omega)
   have i2:=ih (n % 10) (by omega) (by omega)
   have q1:IntKind.i64.wrap ((n:Int).tdiv 10)=((n / 10:Nat):Int):=by
    rw [Int.tdiv_eq_ediv_of_nonneg (by omega),wrap_id (by omega) (by omega)];omega
   have q2:(n:Int).tmod 10=((n % 10:Nat):Int):=by
    rw [Int.tmod_eq_emod_of_nonneg (by omega)];omega
   rw [dd_rec h] at hlen ⊢
   rw [List.length_append] at hlen
   generalize Lib.decDigits (n / 10)=d1 at *
   generalize Lib.decDigits (n % 10)=d2 at *
   have hc:d1.length+d2.length≤1000000000:=by omega
   refine jC Tryz.func74 Tryz.ntmps74 (fun w0 β0 ext hβ=>?_)
   repeat (first|refine jS ?_|refine jD ?_|refine jB ?_)
   rw [hneg]
   repeat (first|refine jS ?_|refine jD ?_|refine jB ?_)
   rw [h10]
   repeat (first|refine jS ?_|refine jD ?_|refine jB ?_)
   rw [q1]
   repeat (first|refine jS ?_|refine jD ?_|refine jB ?_|refine jV i1 ?_)
   rw [q2]
   repeat (first|refine jS ?_|refine jD ?_|refine jB ?_|refine jV i2 ?_|refine jo rfl rfl (cat_str rfl rfl hc) rfl rfl ?_)
   exact jR
theorem digits_ok (v:Int) (h:bd v):ACalls Tryz.prog 74 [iv v] [] (one (sv (Lib.itoa v)) []):=by
 unfold bd at h
 by_cases hv:v < 0
 ·obtain ⟨n,hn⟩:∃ n:Nat,0-v=n:=⟨(0-v).toNat,by omega⟩
  have i1:=digitsN_ok n (by omega)
  have hneg:decide (v < 0)=true:=decide_eq_true hv
  have hlen:=dd_len 9 n (by omega)
  have e:Lib.itoa v=[45]++Lib.decDigits n:=by
   unfold Lib.itoa
   rw [if_pos hv,show v.natAbs=n by omega];rfl
  rw [e]
  have hw:IntKind.i64.wrap (0-v)=(n:Int):=by rw [wrap_id (by omega) (by omega)];exact hn
  have hc:([45]:Bs).length+(Lib.decDigits n).length≤1000000000:=by simp;omega
  refine jC Tryz.func74 Tryz.ntmps74 (fun w0 β0 ext hβ=>?_)
  repeat (first|refine jS ?_|refine jD ?_|refine jB ?_)
  rw [hneg]
  repeat (first|refine jS ?_|refine jD ?_|refine jB ?_)
  rw [hw]
  repeat (first|refine jS ?_|refine jD ?_|refine jB ?_|refine jV i1 ?_|refine jo rfl rfl (cat_str (a:=[45]) rfl rfl hc) rfl rfl ?_)
  exact jR
 ·obtain ⟨n,rfl⟩:∃ n:Nat,v=n:=⟨v.toNat,by omega⟩
  rw [itoa_nat]
  exact digitsN_ok n (by omega)
theorem make_pub [T:TyTab Tryz.prog] {dst:Option Tmp} {t:TypeId} {l c:Operand} {type:TypeId} {pos:String} {after:Array Edge} {guard:Option (Nat × Bool)} {F:Fr} {H:List AObj} {e:TypeId} {r r':TyRow} {kl kc:IntKind} {n:Int} (m:Nat) {z:Value}
  (hl:ev F l=some (.v (.int kl n))) (hc:ev F c=some (.v (.int kc n))) (hm:n=(m:Int)) (ht:tfind T.tab t=some r') (hd:r'.d = .slice e) (he:tfind T.tab e=some r) (hz:r.z=z) (hs:r.size=1) (hzc:z.cells = #[z]) (hb:r.bytes≤1000) (hk:m≤1000000) :
  DSem Tryz.prog .p ⟨dst,.makeSlice t l c,type,pos,after,guard⟩ F H (.sl (List.replicate m (.v z))) H:=by
 refine ⟨rfl,fun H'=>?_⟩
 intro ext w β ρ hI hext hκ hρ
 have h2:ρ l = .int kl n:=hρ l (by simp [Op.operands]) _ hl
 have h3:ρ c = .int kc n:=hρ c (by simp [Op.operands]) _ hc
 obtain ⟨i,i1,i2,i3,i4⟩:=ty_info he
 rw [hz] at i2
 rw [hs] at i3
 have hu:Tryz.prog.underlying t=some (.slice e):=by rw [ty_und ht,hd]
 have hbm:i.bytes*m≤1000*1000000:=Nat.mul_le_mul (by omega) hk
 have hq0:(i.bytes:Int)*n≤281474976710656:=by
  rw [hm,←Int.natCast_mul];generalize i.bytes*m=q at hbm ⊢;omega
 have hr:=run_make (P:=Tryz.prog) w t e i z hu i1 i2 kl kc n n (by omega) (Int.le_refl _) hq0 (by omega)
 have h4:(execOp ρ ⟨dst,.makeSlice t l c,type,pos,after,guard⟩).run Tryz.prog w = .ok (.value (.slice (some ⟨w.heap.size,0,none⟩) m m)) (World.push w (.cells (madeCells z.cells m) e)):=by
  simp only [execOp,Sem.run_bind,h2,h3,hr,Result.andThen_ok,Sem.run_pure]
  rw [hm,i3,Nat.mul_one]
  rfl
 rw [h4]
 refine ⟨_,_,β,⟨rfl,rfl⟩,⟨some ⟨w.heap.size,0,none⟩,m,1,by rw [List.length_replicate],by rw [List.length_replicate];exact Nat.le_refl _,fun _=>⟨w.heap.size,0,rfl,?_,by show w.heap.size < (World.push w _).heap.size;rw [push_size];omega⟩,?_⟩,hI.push _,Step.push w β _⟩
 ·rintro (h|h)
  ·exact absurd (hext _ h) (by omega)
  ·exact absurd (hI.sep _ h).2 (by omega)
 ·refine RelR.of_get fun q a ha=>?_
  have hq:q < m:=by simpa using (List.getElem?_eq_some_iff.1 ha).1
  rw [List.getElem?_replicate,if_pos hq] at ha
  injection ha with ha
  subst ha
  refine ⟨z,rfl,by rw [hzc];rfl,fun p hp=>?_⟩
  have hp0:p=0:=by omega
  subst hp0
  simp only [Nat.zero_add,Nat.mul_one,Nat.add_zero]
  show (World.push w _).cell? ⟨w.heap.size,0+q,none⟩=_
  rw [Nat.zero_add]
  simp only [World.cell?,push_top]
  rw [hzc]
  show (madeCells #[z] m)[q]? = _
  rw [made_get _ _ _ hq]
  rfl
theorem mnew_ok (n:Nat) (h1:1≤n) (h2:n≤160):ACalls Tryz.prog 42 [iv (n:Int)] [] (one (.tup [encMem ⟨List.replicate n 0,List.replicate n 0⟩,iv 0]) []):=by
 have f1:decide ((n:Int) < 1)=false:=decide_eq_false (by omega)
 have f2:decide ((n:Int) > 160)=false:=decide_eq_false (by omega)
 unfold encMem mCells ivs
 refine jC Tryz.func42 Tryz.ntmps42 (fun w0 β0 ext hβ=>?_)
 repeat (first|refine jS ?_|refine jD ?_|refine jB ?_)
 rw [f1]
 repeat (first|refine jS ?_|refine jD ?_|refine jB ?_)
 rw [f2]
 repeat (first|refine jS ?_|refine jB ?_)
 refine jdrawPT [(0,.p),(1,.p),(2,.p),(3,.p),(4,.p),(5,.m),(6,.p)] rfl (by kernel_rfl) ?_
 repeat (first|refine jS ?_|refine jD ?_|refine jB ?_)
 refine jo rfl rfl (make_pub n rfl rfl rfl rfl rfl rfl rfl rfl rfl (by decide) (by omega)) rfl rfl ?_
 repeat (first|refine jS ?_|refine jD ?_|refine jB ?_)
 refine jo rfl rfl (make_pub n rfl rfl rfl rfl rfl rfl rfl rfl rfl (by decide) (by omega)) rfl rfl ?_
 repeat (first|refine jS ?_|refine jD ?_|refine jB ?_)
 rw [List.map_replicate]
 exact jR
def names (n:Nat):List Bs:=(List.range n).map tname
theorem names_succ (n:Nat):names (n+1)=names n++[tname n]:=by unfold names;rw [List.range_succ,List.map_append];rfl
theorem rnames_ok (n:Nat) (hn:n≤1000):ACalls Tryz.prog 78 [iv (n:Int)] [] (one (.sl ((names n).map sv)) []):=by
 refine jC Tryz.func78 Tryz.ntmps78 (fun w0 β0 ext hβ=>?_)
 repeat (first|refine jad 3 9 1 rfl rfl rfl rfl ?_|refine jS ?_|refine jD ?_|refine jB ?_)
 refine jloopI (fun q:Nat=>q≤n) [0,3,4] (fun q=>[.v (.int .i64 (n:Int)),.arr 0 (q+1),.v (.int .i64 (q:Int))])
  (fun q=>[.arr (q+1) 9 1 ((names q).map sv)]) (fun q=>n-q) 0 (Nat.zero_le _) rfl rfl (fun q hq=>?_)
 repeat (first|refine jS ?_|refine jD ?_|refine jB ?_)
 refine jc rfl rfl rfl (fun h=>?_) (fun h=>?_)
 ·have h:=of_decide_eq_true h
  have hq2:q < n:=by omega
  have hidx:IntKind.i64.wrap ((q:Int)+1)=((q+1:Nat):Int):=by rw [wrap_id (by omega) (by omega)];rfl
  have hd:=digits_ok (q:Int) ⟨by omega,by omega⟩
  have hl:=tname_len (n:=q) (by omega)
  have hln:(names q).length=q:=by unfold names;simp
  repeat (first|refine jS ?_|refine jD ?_|refine jB ?_|refine jV hd ?_)
  refine jo rfl rfl (cat_str (a:=[116]) (b:=Lib.itoa q) rfl rfl (by unfold tname at hl;simp at hl ⊢;omega)) rfl rfl ?_
  rw [show [116]++Lib.itoa (q:Int)=tname q from rfl]
  repeat (first|refine jS ?_|refine jD ?_|refine jB ?_)
  refine jo rfl rfl (append_enc (enc:=sv) (l:=names q) (tname q) rfl rfl rfl rfl rfl rfl rfl rfl rfl rfl (fun x=>⟨rfl,rfl⟩) rfl (by omega) rfl rfl) rfl rfl ?_
  rw [←names_succ]
  repeat (first|refine jS ?_|refine jD ?_|refine jB ?_)
  refine jnextI (q+1) hq2 ?_ rfl (by omega)
  show some _=some _
  rw [hidx]
 ·have h:=of_decide_eq_false h
  have:q=n:=by omega
  subst this
  refine jpub 3 rfl rfl rfl rfl ?_
  repeat (first|refine jS ?_|refine jD ?_|refine jB ?_)
  exact jR
end Go.AL
end
section
set_option maxRecDepth 100000
namespace Go.AL
open Go Go.Proofs
attribute [local irreducible] J
theorem names_len (n:Nat):(names n).length=n:=by unfold names;simp
theorem names_sz {n:Nat} (hn:n≤1000):∀ l∈names n,l.length≤1000000:=fun l hl=>by
 unfold names at hl
 obtain ⟨i,hi,rfl⟩:=List.mem_map.1 hl
 have:=tname_len (n:=i) (by have:=List.mem_range.1 hi;omega)
 omega
theorem sptext_ok:ACalls Tryz.prog 64 [] [] (one (sv spT) []):=by
 refine jC Tryz.func64 Tryz.ntmps64 (fun w0 β0 ext hβ=>?_)
 repeat (first|refine jS ?_|refine jD ?_|refine jB ?_)
 exact jR
end Go.AL
end
section
set_option maxRecDepth 100000
namespace Go.AL
open Go Go.Proofs
def encDd (d:Dd):AVal:=.agg [iv d.kind,iv d.at_,iv d.value]
def encPl (l:List Dd):AVal:=.sl (l.map encDd)
def mayD (d:Dd):Bool:=(inn d.kind 0 4&&(inn d.at_ 0 7&&inn d.value (-1000000000) 1000000000))&&((decide (d.at_=0)||(decide (d.kind=3)||decide (d.kind=4)))&&(decide (d.value=0)||decide (d.kind=4)))
def dn1 (n:Int) (d:Dd):Int:=cond (decide (d.kind=0)) (n+1) (cond (decide (d.kind=1)) (n-1) n)
def okD (n:Int) (d:Dd):Bool:=mayD d&&(!(decide (d.kind=2)&&decide (n > 0))&&inn (dn1 n d) 0 3)
def dpt (l:List Dd):Int:=l.foldl dn1 0
def goB (l:List Dd):Bool:=(List.range l.length).all fun k=>okD (dpt (l.take k)) (at' l (k:Int))
def planB (l:List Dd):Bool:=goB l&&decide (dpt l=0)
theorem dpt_snoc (l:List Dd) (d:Dd):dpt (l++[d])=dn1 (dpt l) d:=by unfold dpt;rw [List.foldl_append];rfl
theorem dpt_succ {l:List Dd} {k:Nat} (h:k < l.length):dpt (l.take (k+1))=dn1 (dpt (l.take k)) (at' l (k:Int)):=by
 rw [List.take_succ_eq_append_getElem h,dpt_snoc,at_nat l k h]
theorem okD_iff {n:Int} {d:Dd}:okD n d=true↔mayD d=true∧¬(d.kind=2∧n > 0)∧0≤dn1 n d∧dn1 n d≤3:=by
 unfold okD
 rw [Bool.and_eq_true,Bool.and_eq_true,inn_iff,Bool.not_eq_true',Bool.and_eq_false_iff]
 constructor
 ·rintro ⟨a,b,c⟩
  refine ⟨a,fun ⟨p,q⟩=>?_,c⟩
  rcases b with b|b
  ·exact absurd p (of_decide_eq_false b)
  ·exact absurd q (of_decide_eq_false b)
 ·rintro ⟨a,b,c⟩
  refine ⟨a,?_,c⟩
  by_cases p:d.kind=2
  ·exact .inr (decide_eq_false fun q=>b ⟨p,q⟩)
  ·exact .inl (decide_eq_false p)
theorem goB_iff {l:List Dd}:goB l=true↔∀ k,k < l.length→okD (dpt (l.take k)) (at' l (k:Int))=true:=by
 unfold goB
 rw [List.all_eq_true]
 exact ⟨fun h k hk=>h k (List.mem_range.2 hk),fun h k hk=>h k (List.mem_range.1 hk)⟩
theorem goB_no {l:List Dd} {k:Nat} (hk:k < l.length) (h:okD (dpt (l.take k)) (at' l (k:Int))=false):planB l=false:=by
 unfold planB
 have:goB l=false:=by
  cases e:goB l with
  | false=>rfl
  | true=>rw [goB_iff.1 e k hk] at h;cases h
 rw [this];rfl
theorem planB_end {l:List Dd} (h:∀ k,k < l.length→okD (dpt (l.take k)) (at' l (k:Int))=true):planB l=decide (dpt l=0):=by
 unfold planB
 rw [goB_iff.2 h];rfl
theorem dpt_bd {l:List Dd}:∀ k,k≤l.length→(∀ q,q < k→okD (dpt (l.take q)) (at' l (q:Int))=true)→0≤dpt (l.take k)∧dpt (l.take k)≤3
 | 0,_,_=>by
  rw [List.take_zero];exact ⟨Int.le_refl _,(by decide:(0:Int)≤3)⟩
 | k+1,hk,h=>by
  rw [dpt_succ (by omega)]
  exact (okD_iff.1 (h k (by omega))).2.2
theorem mayD_iff {d:Dd}:mayD d=true↔(0≤d.kind∧d.kind≤4)∧(0≤d.at_∧d.at_≤7)∧(-1000000000≤d.value∧d.value≤1000000000)∧(d.at_=0∨d.kind=3∨d.kind=4)∧(d.value=0∨d.kind=4):=by
 unfold mayD
 simp only [Bool.and_eq_true,Bool.or_eq_true,decide_eq_true_eq,inn_iff]
 exact ⟨fun ⟨⟨a,b,c⟩,d,e⟩=>⟨a,b,c,d,e⟩,fun ⟨a,b,c,d,e⟩=>⟨⟨a,b,c⟩,d,e⟩⟩
def plWhy (f:Int) (ps:List (List Dd)):Int:=cond (inn ps.length 1 8&&ps.all fun l=>decide (l.length≤8)) (cond (inn f 0 1&&ps.all planB) 0 1) 2
theorem why_size {f:Int} {ps:List (List Dd)} (h:¬(1≤ps.length∧ps.length≤8)):plWhy f ps=2:=by
 unfold plWhy
 have:inn (ps.length:Int) 1 8=false:=by
  cases e:inn (ps.length:Int) 1 8 with
  | false=>rfl
  | true=>have:=inn_iff.1 e;exact absurd (show _ from ⟨by omega,by omega⟩) h
 rw [this];rfl
theorem why_len {f:Int} {ps:List (List Dd)} {l:List Dd} (h:l∈ps) (h8:¬l.length≤8):plWhy f ps=2:=by
 unfold plWhy
 have:(ps.all fun l=>decide (l.length≤8))=false:=List.all_eq_false.2 ⟨l,h,by rw [decide_eq_false h8];decide⟩
 rw [this,Bool.and_false];rfl
theorem why_sized {f:Int} {ps:List (List Dd)} (h1:1≤ps.length) (h8:ps.length≤8) (hr:∀ l∈ps,l.length≤8):plWhy f ps=cond (inn f 0 1&&ps.all planB) 0 1:=by
 unfold plWhy
 rw [inn_iff.2 ⟨by omega,by omega⟩,List.all_eq_true.2 fun l hl=>decide_eq_true (hr l hl)];rfl
theorem plw_ok {f:Int} {ps:List (List Dd)} (h:plWhy f ps=0):(1≤ps.length∧ps.length≤8)∧(∀ l∈ps,l.length≤8)∧(0≤f∧f≤1)∧∀ l∈ps,planB l=true:=by
 by_cases h1:1≤ps.length∧ps.length≤8
 ·by_cases h2:∀ l∈ps,l.length≤8
  ·rw [why_sized h1.1 h1.2 h2] at h
   cases e:inn f 0 1&&ps.all planB with
   | false=>rw [e] at h;cases h
   | true =>
    rw [Bool.and_eq_true] at e
    exact ⟨h1,h2,inn_iff.1 e.1,List.all_eq_true.1 e.2⟩
  ·exfalso
   have:∃ l∈ps,¬l.length≤8:=Classical.byContradiction fun hn=>h2 fun l hl=>Classical.byContradiction fun h3=>hn ⟨l,hl,h3⟩
   obtain ⟨l,hl,h3⟩:=this
   rw [why_len hl h3] at h;cases h
 ·rw [why_size h1] at h;cases h
theorem plan_dd {l:List Dd} (h:planB l=true) {n:Nat} (hn:n≤8):∀ d∈l,DdB n d:=fun d hd=>by
 obtain ⟨k,hk,rfl⟩:=List.getElem_of_mem hd
 unfold planB at h
 rw [Bool.and_eq_true] at h
 have:=goB_iff.1 h.1 k hk
 have:=mayD_iff.1 (okD_iff.1 this).1
 rw [at_nat l k hk] at this
 exact ⟨⟨by omega,by omega⟩,⟨by omega,by omega⟩⟩
theorem why_pl {f:Int} {ps:List (List Dd)} (h:plWhy f ps=0):PlB ps:=by
 obtain ⟨a,b,_,c⟩:=plw_ok h
 exact ⟨a.2,b,fun l hl=>plan_dd (c l hl) a.2⟩
def urW (n:Nat):List Int:=1::0::(n:Int)::List.replicate n 0
theorem urW_len (n:Nat):(urW n).length=3+n:=by unfold urW;simp;omega
def layU (m:Mem) (a many:Int):Mem × Int:=cond (mRight m&&inn many 1 8) (cond (decide ((mMark m a (3+many) 1).2=0)) (⟨stL (mMark m a (3+many) 1).1.words a.toNat (urW many.toNat),(mMark m a (3+many) 1).1.tags⟩,0) (mem0,(mMark m a (3+many) 1).2)) (mem0,1)
theorem layU_no {m:Mem} {a many:Int} (h:(mRight m&&inn many 1 8)=false):layU m a many=(mem0,1):=by unfold layU;rw [h];rfl
theorem layU_bad {m:Mem} {a many:Int} (h:(mRight m&&inn many 1 8)=true) (h2:(mMark m a (3+many) 1).2≠0):layU m a many=(mem0,(mMark m a (3+many) 1).2):=by
 unfold layU;rw [h,decide_eq_false h2];rfl
theorem layU_good {m:Mem} {a many:Int} (h:(mRight m&&inn many 1 8)=true) (h2:(mMark m a (3+many) 1).2=0):layU m a many=(⟨stL (mMark m a (3+many) 1).1.words a.toNat (urW many.toNat),(mMark m a (3+many) 1).1.tags⟩,0):=by
 unfold layU;rw [h,decide_eq_true h2];rfl
theorem row_store {m:Mem} {k n:Nat} {W:List Int} {q:Nat} (hl:k+n≤m.words.length) (hin:∀ j,k≤j→j < k+n→g0 m.tags j=1) (hW:W.length=n) (hq:q < n) :
  mStore ⟨stL m.words k (W.take q),m.tags⟩ ((k+q:Nat):Int) (at' W (q:Int))=(⟨stL m.words k (W.take (q+1)),m.tags⟩,0):=by
 rw [store_live (m:=⟨stL m.words k (W.take q),m.tags⟩) (by show k+q < (stL m.words k (W.take q)).length;rw [stL_len];omega) (hin _ (by omega) (by omega))]
 rw [List.take_succ_eq_append_getElem (by omega),stL_snoc,at_nat W q (by omega),List.length_take,Nat.min_eq_left (by omega)]
theorem had_right {m:Mem} {k n:Nat} (hr:mRight m=true) (hl:k+n≤m.words.length) (hin:∀ j,k≤j→j < k+n→g0 m.tags j=1):∀ (W:List Int),W.length≤n→mRight ⟨stL m.words k W,m.tags⟩=true:=by
 intro W
 induction h:W.length generalizing W with
 | zero=>intro _;rw [List.length_eq_zero_iff.1 h];exact hr
 | succ q ih =>
  intro hn
  have hW:W=W.take q++[W[q]]:=by rw [←List.take_succ_eq_append_getElem (by omega),List.take_of_length_le (by omega)]
  have ih:=ih (W.take q) (by rw [List.length_take];omega) (by omega)
  have h1:=store_live (m:=⟨stL m.words k (W.take q),m.tags⟩) (q:=k+q) (v:=W[q]) (by show k+q < (stL m.words k (W.take q)).length;rw [stL_len];omega) (hin _ (by omega) (by omega))
  have h2:=(mStore_right (v:=W[q]) ih (use_live (m:=⟨stL m.words k (W.take q),m.tags⟩) (q:=k+q) (by show k+q < (stL m.words k (W.take q)).length;rw [stL_len];omega) (hin _ (by omega) (by omega)))).1
  rw [h1] at h2
  rw [hW,stL_snoc,List.length_take,Nat.min_eq_left (by omega)]
  exact h2
def urM0 (n:Nat):Mem:=⟨0::(urW n++List.replicate 8 0),0::(List.replicate (3+n) 1++List.replicate 8 0)⟩
def urM (n:Nat):Mem:=⟨0::(urW n++List.replicate 8 0),0::List.replicate (11+n) 1⟩
theorem urM_facts:∀ n:Nat,n < 9→1≤n→layU ⟨List.replicate (12+n) 0,List.replicate (12+n) 0⟩ 1 n=(urM0 n,0)∧mMark (urM0 n) ((4+n:Nat):Int) 8 1=(urM n,0)∧mRight (urM n)=true∧mRight (urM0 n)=true∧mRight ⟨List.replicate (12+n) 0,List.replicate (12+n) 0⟩=true:=by decide +kernel
def urS (b:Bool) (ps:List (List Dd)):Bs:=ltx (urLn b ps)
def fb (f:Int):Bool:=decide (f=1)
def urWd (f d:Int) (ps:List (List Dd)):Wd × Int:=cond (decide (plWhy f ps=0)) (newW (urCode (fb f) ps) (rst (urS (fb f) ps) (names ps.length)) (urM ps.length) d) (wd0,plWhy f ps)
def urO (f d:Int) (ps:List (List Dd)):Wd:=newOk (urCode (fb f) ps) (rst (urS (fb f) ps) (names ps.length)) (urM ps.length) d
theorem ur_there (b:Bool) {ps:List (List Dd)} (h:PlB ps):∀ l∈names ps.length,(whereP (urS b ps) l).2=0:=fun l hl=>by
 unfold names at hl
 obtain ⟨i,hi,rfl⟩:=List.mem_map.1 hl
 unfold urS
 rw [ur_where b h (List.mem_range.1 hi)]
theorem urWd_good {f d:Int} {ps:List (List Dd)} (h:plWhy f ps=0) (hd:inn d 0 8=true):urWd f d ps=(urO f d ps,0)∧WdR (urO f d ps):=by
 obtain ⟨a,_,_,_⟩:=plw_ok h
 have hpr:=ur_parse (fb f) (why_pl h)
 rw [show ltx (urLn (fb f) ps)=urS (fb f) ps from rfl] at hpr
 have hp0:(rparse (urS (fb f) ps)).2.2=0:=by rw [hpr]
 have hz:inn ((names ps.length).length:Int) 1 8=true:=by rw [names_len];exact inn_iff.2 ⟨by omega,by omega⟩
 have hr:=(urM_facts ps.length (by omega) a.1).2.2.1
 have h1:=newW_good hp0 (names ps.length) (urM ps.length) d hr hz hd
 have h2:=newOk_r hp0 (names ps.length) (urM ps.length) d hr hz hd
 rw [hpr] at h1 h2
 exact ⟨by unfold urWd;rw [decide_eq_true h];exact h1,h2⟩
theorem urWd_no {f d:Int} {ps:List (List Dd)} (h:plWhy f ps≠0):urWd f d ps=(wd0,plWhy f ps):=by
 unfold urWd
 rw [decide_eq_false h];rfl
theorem al_why:plWhy 0 [[⟨2,0,0⟩]]=0:=by decide +kernel
set_option maxHeartbeats 4000000 in
theorem al_ur:(roundsW (urO 0 1 [[⟨2,0,0⟩]]) 300).1.evs.length=2∧(at' (roundsW (urO 0 1 [[⟨2,0,0⟩]]) 300).1.evs (1:Int)).kind=5:=by decide +kernel
end Go.AL
end
section
set_option maxRecDepth 100000
namespace Go.AL
open Go Go.Proofs
def md5 (n:Int):Int:=(IntKind.i64.wrap (n.tmod 5+5)).tmod 5
def md2 (n:Int):Int:=(IntKind.i64.wrap (n.tmod 2+2)).tmod 2
theorem md5_bd (n:Int):0≤md5 n∧md5 n≤4:=by
 unfold md5
 have h1:=tmod_bd n (n:=5) (by omega)
 rw [wrap_id (by omega : -9223372036854775808≤n.tmod 5+5) (by omega)]
 have h2:=tmod_bd (n.tmod 5+5) (n:=5) (by omega)
 have h3:=tmod_nn (k:=n.tmod 5+5) (n:=5) (by omega)
 omega
theorem md2_bd (n:Int):0≤md2 n∧md2 n≤1:=by
 unfold md2
 have h1:=tmod_bd n (n:=2) (by omega)
 rw [wrap_id (by omega : -9223372036854775808≤n.tmod 2+2) (by omega)]
 have h2:=tmod_bd (n.tmod 2+2) (n:=2) (by omega)
 have h3:=tmod_nn (k:=n.tmod 2+2) (n:=2) (by omega)
 omega
def sdK (first:Bool) (len:Nat) (n:Int) (k:Int):Int :=
 cond ((decide (k=1)&&decide (n=0))||(decide (k=0)&&decide (n+1+len≥7))) 3 (cond ((decide (k=2)&&decide (n > 0))||(decide (k=4) && !first)) 3 k)
def sdN (first : Bool) (q : Nat) (s : List Dd × Int) (d : Dd) : List Dd × Int :=
  cond (decide (s.1.length + s.2 ≥ 8)) s
    (let k := sdK first s.1.length s.2 (md5 d.kind)
     let a := cond (decide (k ≥ 3)) (md2 d.at_) 0
     cond (decide (k = 0)) (cond (decide (s.2 = 3)) s (s.1 ++ [⟨k, a, 0⟩], s.2 + 1))
       (cond (decide (k = 1)) (s.1 ++ [⟨k, a, 0⟩], s.2 - 1)
         (cond (decide (k = 4)) (s.1 ++ [⟨k, a, (q : Int) + 1⟩], s.2) (s.1 ++ [⟨k, a, 0⟩], s.2))))
def sdP (first:Bool) (l:List Dd):Nat→List Dd × Int
 | 0=>([],0)
 | q+1=>sdN first q (sdP first l q) (at' l (q:Int))
def out1:Dd:=⟨1,0,0⟩
def sdRow (first:Bool) (l:List Dd):List Dd:=(sdP first l l.length).1++List.replicate (sdP first l l.length).2.toNat out1
def someU (ps:List (List Dd)):List (List Dd):=cond (decide (ps.take 4=[])) [[]] ((ps.take 4).zipIdx.map fun p=>sdRow (decide (p.2=0)) (p.1.take 8))
structure Way (q:Nat) (s:List Dd × Int):Prop where
 dp:dpt s.1=s.2
 lo:0≤s.2
 hi:s.2≤3
 sum:s.1.length+s.2≤8
 few:s.1.length≤q
 ok:goB s.1=true
theorem goB_snoc {l:List Dd} {d:Dd} (h:goB l=true) (hd:okD (dpt l) d=true):goB (l++[d])=true:=goB_iff.2 fun k hk=>by
 rw [List.length_append,List.length_singleton] at hk
 by_cases e:k=l.length
 ·subst e
  rw [List.take_left,at_nat _ _ (by simp),List.getElem_append_right (Nat.le_refl _)]
  simpa using hd
 ·rw [List.take_append_of_le_length (by omega),at_nat _ _ (by simp;omega),List.getElem_append_left (by omega)]
  have:=goB_iff.1 h k (by omega)
  rw [at_nat l k (by omega)] at this
  exact this
theorem sd_way (first:Bool) (l:List Dd):∀ q,q≤8→Way q (sdP first l q)
 | 0,_=>⟨rfl,Int.le_refl _,(by decide:(0:Int)≤3),(by decide:((0:Nat):Int)+0≤8),Nat.le_refl _,rfl⟩
 | q+1,hq=>by
  have ih:=sd_way first l q (by omega)
  show Way (q+1) (sdN first q (sdP first l q) (at' l (q:Int)))
  generalize sdP first l q=s at *
  generalize at' l (q:Int)=d at *
  obtain ⟨r,n⟩:=s
  obtain ⟨dp,lo,hi,sum,few,ok⟩:=ih
  simp only at dp lo hi sum few ok
  unfold sdN
  by_cases h8:(r.length:Int)+n≥8
  ·rw [decide_eq_true h8]
   exact ⟨dp,lo,hi,sum,by simp only [cond_true];omega,ok⟩
  ·rw [decide_eq_false h8]
   simp only [cond_false]
   have hk5:=md5_bd d.kind
   have ha2:=md2_bd d.at_
   have hkk:0≤sdK first r.length n (md5 d.kind)∧sdK first r.length n (md5 d.kind)≤4∧(sdK first r.length n (md5 d.kind)=1→n≠0)∧(sdK first r.length n (md5 d.kind)=0→n+1+r.length < 7)∧(sdK first r.length n (md5 d.kind)=2→n≤0):=by
    unfold sdK
    generalize md5 d.kind=k at *
    by_cases c1:(k=1∧n=0)∨(k=0∧n+1+r.length≥7)
    ·have:((decide (k=1)&&decide (n=0))||(decide (k=0)&&decide (n+1+r.length≥7)))=true:=by
      simp only [Bool.or_eq_true,Bool.and_eq_true,decide_eq_true_eq];exact c1
     rw [this]
     simp only [cond_true]
     omega
    ·have:((decide (k=1)&&decide (n=0))||(decide (k=0)&&decide (n+1+r.length≥7)))=false:=by
      rw [Bool.eq_false_iff]
      intro h
      simp only [Bool.or_eq_true,Bool.and_eq_true,decide_eq_true_eq] at h
      exact c1 h
     rw [this]
     simp only [cond_false]
     by_cases c2:(k=2∧n > 0)
     ·rw [decide_eq_true c2.1,decide_eq_true c2.2]
      simp only [Bool.and_self,Bool.true_or,cond_true]
      omega
     ·have:(decide (k=2)&&decide (n > 0))=false:=by
       rw [Bool.eq_false_iff]
       intro h
       simp only [Bool.and_eq_true,decide_eq_true_eq] at h
       exact c2 h
      rw [this]
      cases h4:(decide (k=4) && !first) with
      | true=>simp only [Bool.or_true,cond_true];omega
      | false =>
       simp only [Bool.or_self,cond_false]
       omega
   generalize sdK first r.length n (md5 d.kind)=k at *
   obtain ⟨k0,k4,kn,kl,ks⟩:=hkk
   have hA:∀ v:Int,(v=0∨k=4)→(-1000000000≤v∧v≤1000000000)→(k=0→n < 3)→okD n ⟨k,cond (decide (k≥3)) (md2 d.at_) 0,v⟩=true:=fun v hv hvb h03=>by
    refine okD_iff.2 ⟨mayD_iff.2 ⟨⟨k0,k4⟩,?_,hvb,?_,hv⟩,fun ⟨a,b⟩=>?_,?_⟩
    ·show 0≤cond (decide (k≥3)) (md2 d.at_) 0∧cond (decide (k≥3)) (md2 d.at_) 0≤7
     by_cases h3:k≥3
     ·rw [decide_eq_true h3];simp only [cond_true];omega
     ·rw [decide_eq_false h3];exact ⟨Int.le_refl _,(by decide:(0:Int)≤7)⟩
    ·show cond (decide (k≥3)) (md2 d.at_) 0=0∨k=3∨k=4
     by_cases h3:k≥3
     ·right;omega
     ·rw [decide_eq_false h3];exact .inl rfl
    ·have:=ks a;omega
    ·show 0≤dn1 n ⟨k,_,v⟩∧dn1 n ⟨k,_,v⟩≤3
     unfold dn1
     simp only
     by_cases h0:k=0
     ·rw [decide_eq_true h0];simp only [cond_true];have:=h03 h0;omega
     ·rw [decide_eq_false h0];simp only [cond_false]
      by_cases h1:k=1
      ·rw [decide_eq_true h1];simp only [cond_true];have:=kn h1;omega
      ·rw [decide_eq_false h1];simp only [cond_false];omega
   generalize cond (decide (k≥3)) (md2 d.at_) 0=a at *
   by_cases h0:k=0
   ·rw [decide_eq_true h0]
    simp only [cond_true]
    by_cases h3:n=3
    ·rw [decide_eq_true h3]
     exact ⟨dp,lo,hi,sum,by simp only [cond_true];omega,ok⟩
    ·rw [decide_eq_false h3]
     have:=kl h0
     have hgo:=hA 0 (.inl rfl) ⟨by decide,by decide⟩ (fun _=>by omega)
     refine ⟨?_,by simp only [cond_false];omega,by simp only [cond_false];omega,by simp only [cond_false,List.length_append,List.length_singleton];omega,by simp only [cond_false,List.length_append,List.length_singleton];omega,?_⟩
     ·simp only [cond_false];rw [dpt_snoc,dp];unfold dn1;simp only;rw [decide_eq_true h0];rfl
     ·simp only [cond_false];exact goB_snoc ok (by rw [dp];exact hgo)
   ·rw [decide_eq_false h0]
    simp only [cond_false]
    by_cases h1:k=1
    ·rw [decide_eq_true h1]
     have:=kn h1
     have hgo:=hA 0 (.inl rfl) ⟨by decide,by decide⟩ (fun h=>absurd h h0)
     refine ⟨?_,by simp only [cond_true];omega,by simp only [cond_true];omega,by simp only [cond_true,List.length_append,List.length_singleton];omega,by simp only [cond_true,List.length_append,List.length_singleton];omega,?_⟩
     ·simp only [cond_true];rw [dpt_snoc,dp];unfold dn1;simp only;rw [decide_eq_false h0,decide_eq_true h1];rfl
     ·simp only [cond_true];exact goB_snoc ok (by rw [dp];exact hgo)
    ·rw [decide_eq_false h1]
     simp only [cond_false]
     have hdn:∀ v,dn1 n ⟨k,a,v⟩=n:=fun v=>by unfold dn1;simp only;rw [decide_eq_false h0,decide_eq_false h1];rfl
     by_cases h4:k=4
     ·rw [decide_eq_true h4]
      have hgo:=hA ((q:Int)+1) (.inr h4) ⟨by omega,by omega⟩ (fun h=>absurd h h0)
      refine ⟨?_,by simp only [cond_true];omega,by simp only [cond_true];omega,by simp only [cond_true,List.length_append,List.length_singleton];omega,by simp only [cond_true,List.length_append,List.length_singleton];omega,?_⟩
      ·simp only [cond_true];rw [dpt_snoc,dp,hdn]
      ·simp only [cond_true];exact goB_snoc ok (by rw [dp];exact hgo)
     ·rw [decide_eq_false h4]
      have hgo:=hA 0 (.inl rfl) ⟨by decide,by decide⟩ (fun h=>absurd h h0)
      refine ⟨?_,by simp only [cond_false];omega,by simp only [cond_false];omega,by simp only [cond_false,List.length_append,List.length_singleton];omega,by simp only [cond_false,List.length_append,List.length_singleton];omega,?_⟩
      ·simp only [cond_false];rw [dpt_snoc,dp,hdn]
      ·simp only [cond_false];exact goB_snoc ok (by rw [dp];exact hgo)
theorem outs_way:∀ (n:Nat) (l:List Dd),goB l=true→dpt l=(n:Int)→n≤3→planB (l++List.replicate n out1)=true
 | 0,l,h,hd,_=>by
  rw [List.replicate_zero,List.append_nil]
  unfold planB
  rw [h,hd];rfl
 | n+1,l,h,hd,h3=>by
  rw [List.replicate_succ,show l++out1::List.replicate n out1=(l++[out1])++List.replicate n out1 by simp]
  have e:dn1 (dpt l) out1=(n:Int):=by rw [hd];show ((n+1:Nat):Int)-1=n;omega
  refine outs_way n (l++[out1]) (goB_snoc h (okD_iff.2 ⟨by decide,fun ⟨a,_⟩=>absurd a (by decide),by omega,by omega⟩)) (by rw [dpt_snoc,e]) (by omega)
theorem sdRow_ok (first:Bool) (l:List Dd) (h8:l.length≤8):planB (sdRow first l)=true∧(sdRow first l).length≤8:=by
 have h:=sd_way first l l.length h8
 unfold sdRow
 generalize sdP first l l.length=s at *
 obtain ⟨dp,lo,hi,sum,few,ok⟩:=h
 refine ⟨outs_way _ _ ok (by rw [dp];omega) (by omega),by rw [List.length_append,List.length_replicate];omega⟩
theorem someU_ok (ps:List (List Dd)) {f:Int} (hf:f=0∨f=1):plWhy f (someU ps)=0∧(someU ps).length≤4:=by
 unfold someU
 cases h:decide (ps.take 4=[]) with
 | true =>
  simp only [cond_true]
  refine ⟨?_,(by decide:([[]]:List (List Dd)).length≤4)⟩
  rcases hf with rfl|rfl
  ·exact (by decide:plWhy 0 [[]]=0)
  ·exact (by decide:plWhy 1 [[]]=0)
 | false =>
  have h4:(ps.take 4).length≤4:=by rw [List.length_take];omega
  have h1:1≤(ps.take 4).length:=List.length_pos_iff.2 (of_decide_eq_false h)
  have hr:∀ l∈(ps.take 4).zipIdx.map (fun p=>sdRow (decide (p.2=0)) (p.1.take 8)),planB l=true∧l.length≤8:=fun l hl=>by
   obtain ⟨p,_,rfl⟩:=List.mem_map.1 hl
   exact sdRow_ok _ _ (by rw [List.length_take];omega)
  have hlen:((ps.take 4).zipIdx.map (fun p=>sdRow (decide (p.2=0)) (p.1.take 8))).length=(ps.take 4).length:=by simp
  simp only [cond_false]
  refine ⟨?_,by omega⟩
  rw [why_sized (by omega) (by omega) (fun l hl=>(hr l hl).2),List.all_eq_true.2 fun l hl=>(hr l hl).1]
  rcases hf with rfl|rfl<;>rfl
end Go.AL
end
section
set_option maxRecDepth 100000
namespace Go.AL
open Go Go.Proofs
attribute [local irreducible] J
theorem uin_ok (n a b:Int):ACalls Tryz.prog 63 [iv n,iv a,iv b] [] (one (bv (inn n a b)) []):=by
 refine jC Tryz.func63 Tryz.ntmps63 (fun w0 β0 ext hβ=>?_)
 unfold iv
 repeat (first|refine jS ?_|refine jD ?_|refine jB ?_)
 refine jg rfl rfl rfl rfl (fun h=>?_) (fun h=>?_)
 ·repeat (first|refine jS ?_|refine jD ?_|refine jB ?_)
  refine jr rfl rfl ?_ rfl
  unfold bv
  rw [inn,h];rfl
 ·repeat (first|refine jS ?_|refine jD ?_|refine jB ?_)
  refine jr rfl rfl ?_ rfl
  unfold bv
  rw [inn,h];rfl
theorem umay_ok (d:Dd):ACalls Tryz.prog 106 [encDd d] [] (one (bv (mayD d)) []):=by
 have h1:=uin_ok d.kind 0 4
 have h2:=uin_ok d.at_ 0 7
 have h3:=uin_ok d.value (-1000000000) 1000000000
 unfold mayD encDd
 have e0:decide (d.at_=0)=(d.at_ == 0):=by by_cases h:d.at_=0<;>simp [h]
 have e1:decide (d.kind=3)=(d.kind == 3):=by by_cases h:d.kind=3<;>simp [h]
 have e2:decide (d.kind=4)=(d.kind == 4):=by by_cases h:d.kind=4<;>simp [h]
 have e3:decide (d.value=0)=(d.value == 0):=by by_cases h:d.value=0<;>simp [h]
 rw [e0,e1,e2,e3]
 clear e0 e1 e2 e3
 generalize inn d.kind 0 4=b1 at *
 generalize inn d.at_ 0 7=b2 at *
 generalize inn d.value (-1000000000) 1000000000=b3 at *
 cases b1 with
 | false =>
  refine jC Tryz.func106 Tryz.ntmps106 (fun w0 β0 ext hβ=>?_)
  repeat (first|refine jS ?_|refine jD ?_|refine jB ?_|refine jV h1 ?_)
  exact jR
 | true =>
  cases b2 with
  | false =>
   refine jC Tryz.func106 Tryz.ntmps106 (fun w0 β0 ext hβ=>?_)
   repeat (first|refine jS ?_|refine jD ?_|refine jB ?_|refine jV h1 ?_|refine jV h2 ?_)
   exact jR
  | true =>
   cases b3 with
   | false =>
    refine jC Tryz.func106 Tryz.ntmps106 (fun w0 β0 ext hβ=>?_)
    repeat (first|refine jS ?_|refine jD ?_|refine jB ?_|refine jV h1 ?_|refine jV h2 ?_|refine jV h3 ?_)
    exact jR
   | true =>
    refine jC Tryz.func106 Tryz.ntmps106 (fun w0 β0 ext hβ=>?_)
    repeat (first|refine jS ?_|refine jD ?_|refine jB ?_|refine jV h1 ?_|refine jV h2 ?_|refine jV h3 ?_)
    cases c0:(d.at_ == 0)<;>cases c1:(d.kind == 3)<;>cases c2:(d.kind == 4)<;>cases c3:(d.value == 0)
    all_goals (repeat (first|refine jS ?_|rw [c0]|rw [c1]|rw [c2]|rw [c3]))
    all_goals exact jR
end Go.AL
end
section
set_option maxRecDepth 100000
namespace Go.AL
open Go Go.Proofs
attribute [local irreducible] J
theorem lines_Lf (fa fb:FuncId) (u:Bool) (l:Bs) (ss:List Bs) (hne:ss≠[]) (hs:∀ s∈ss,s≠[]) (hl:l.length+(ltx ss).length≤100000) :
  ACalls Tryz.prog 66 [.ptr 0 0,.slf (ss.map sv)] (bldL fa fb u l) (one (.tup []) (bldL fa fb true (l++ltx ss))) :=
 (lines_L fa fb u l ss hne hs hl).argw (fun c us h=>relL_cons (fun u h=>h) (relL_cons (fun u h=>sl_weak h) (fun us h=>h)) us h)
theorem lines_Bf (u:Bool) (l:Bs) (ss:List Bs) (hne:ss≠[]) (hs:∀ s∈ss,s≠[]) (hl:l.length+(ltx ss).length≤100000) :
  ACalls Tryz.prog 66 [.ptr 0 0,.slf (ss.map sv)] (bldB u l) (one (.tup []) (bldB true (l++ltx ss))) :=
 (lines_B u l ss hne hs hl).argw (fun c us h=>relL_cons (fun u h=>h) (relL_cons (fun u h=>sl_weak h) (fun us h=>h)) us h)
def fenC:List Bs:=[[102,101,110,99,101]]
def broC:List Bs:=[[98,114,111,97,100]]
theorem fl1_ok (fa fb:FuncId) (l:Bs) (hl:l.length≤50000):ACalls Tryz.prog 103 [.ptr 0 0] (bldL fa fb true l) (one (.tup []) (bldL fa fb true (l++ltx fenC))):=by
 have h1:=lines_Lf fa fb true l fenC (by decide) (by decide) (Nat.le_trans (Nat.add_le_add hl (show (ltx fenC).length≤10 by decide)) (by decide))
 generalize l++ltx fenC=m at *
 unfold fenC at h1
 unfold bldL bldHL adr at *
 refine jC Tryz.func103 Tryz.ntmps103 (fun w0 β0 ext hβ=>?_)
 repeat (first|refine jS ?_|refine jD ?_|refine jB ?_)
 refine jBb [0,1] h1 ?_
 repeat (first|refine jS ?_|refine jD ?_|refine jB ?_)
 exact jend [] true rfl rfl rfl ⟨rfl,rfl⟩
theorem fl2_ok (fa fb:FuncId) (l:Bs):ACalls Tryz.prog 104 [.ptr 0 0] (bldL fa fb true l) (one (.tup []) (bldL fa fb true l)):=by
 unfold bldL bldHL adr at *
 refine jC Tryz.func104 Tryz.ntmps104 (fun w0 β0 ext hβ=>?_)
 repeat (first|refine jS ?_|refine jD ?_|refine jB ?_)
 exact jend [] true rfl rfl rfl ⟨rfl,rfl⟩
theorem fl3_ok (fa fb:FuncId) (l:Bs) (hl:l.length≤50000):ACalls Tryz.prog 105 [.ptr 0 0] (bldL fa fb true l) (one (.tup []) (bldL fa fb true (l++ltx broC))):=by
 have h1:=lines_Lf fa fb true l broC (by decide) (by decide) (Nat.le_trans (Nat.add_le_add hl (show (ltx broC).length≤10 by decide)) (by decide))
 generalize l++ltx broC=m at *
 unfold broC at h1
 unfold bldL bldHL adr at *
 refine jC Tryz.func105 Tryz.ntmps105 (fun w0 β0 ext hβ=>?_)
 repeat (first|refine jS ?_|refine jD ?_|refine jB ?_)
 refine jBb [0,1] h1 ?_
 repeat (first|refine jS ?_|refine jD ?_|refine jB ?_)
 exact jend [] true rfl rfl rfl ⟨rfl,rfl⟩
theorem flav_ok:ACalls Tryz.prog 60 [] [] (one (.agg [.fn (.func 103) [] [],.fn (.func 103) [] [],.fn (.func 104) [] [],.fn (.func 105) [] []]) []):=by
 refine jC Tryz.func60 Tryz.ntmps60 (fun w0 β0 ext hβ=>?_)
 repeat (first|refine jS ?_|refine jD ?_|refine jB ?_)
 exact jR
def urRA:List Bs:=[[114,108,111,99,107,58],[115,101,108,102,32,114,49],[97,100,100,32,114,49,32,114,49,32,114,48],[108,111,97,100,32,114,50,32,114,49,32,51],[109,97,115,107,32,114,51,32,114,50,32,54,51],[115,111,109,101,32,114,51,32,110,101,115,116,101,100],[108,111,97,100,32,114,50,32,114,48,32,48],[115,116,111,114,101,32,114,50,32,114,49,32,51]]
def urRB:List Bs:=[[114,101,116],[110,101,115,116,101,100,58],[112,108,117,115,32,114,50,32,114,50,32,49],[115,116,111,114,101,32,114,50,32,114,49,32,51],[114,101,116]]
def urRC:List Bs:=[[114,117,110,108,111,99,107,58],[115,101,108,102,32,114,49],[97,100,100,32,114,49,32,114,49,32,114,48],[108,111,97,100,32,114,50,32,114,49,32,51],[112,108,117,115,32,114,50,32,114,50,32,45,49],[115,116,111,114,101,32,114,50,32,114,49,32,51],[114,101,116]]
def syA:List Bs:=[[115,121,110,99,58],[109,111,118,101,32,114,52,32,114,48],[112,108,117,115,32,114,48,32,114,52,32,49],[99,97,108,108,32,108,111,99,107]]
def syB:List Bs:=[[115,101,116,32,114,53,32,50],[102,108,105,112,58],[108,111,97,100,32,114,49,32,114,52,32,48],[115,101,116,32,114,50,32,54,52],[120,111,114,32,114,49,32,114,49,32,114,50],[115,116,111,114,101,32,114,49,32,114,52,32,48]]
def syC:List Bs:=[[108,111,97,100,32,114,54,32,114,52,32,50],[101,97,99,104,58],[122,101,114,111,32,114,54,32,112,97,115,115,101,100],[112,108,117,115,32,114,54,32,114,54,32,45,49],[97,100,100,32,114,55,32,114,52,32,114,54]]
def syD:List Bs:=[[108,111,111,107,58],[108,111,97,100,32,114,49,32,114,55,32,51],[109,97,115,107,32,114,50,32,114,49,32,54,51],[122,101,114,111,32,114,50,32,101,97,99,104],[108,111,97,100,32,114,50,32,114,52,32,48],[120,111,114,32,114,50,32,114,50,32,114,49],[109,97,115,107,32,114,50,32,114,50,32,54,52],[122,101,114,111,32,114,50,32,101,97,99,104]]
def syE:List Bs:=[[112,108,117,115,32,114,50,32,114,55,32,51],[119,97,105,116,32,114,49,32,114,50],[106,117,109,112,32,108,111,111,107],[112,97,115,115,101,100,58],[112,108,117,115,32,114,53,32,114,53,32,45,49],[115,111,109,101,32,114,53,32,102,108,105,112]]
def syF:List Bs:=[[112,108,117,115,32,114,48,32,114,52,32,49],[99,97,108,108,32,117,110,108,111,99,107],[114,101,116]]
def urR (X W:List Bs):List Bs:=urRA++(X++(urRB++(urRC++(syA++(W++(syB++(W++(syC++(syD++(syE++(W++syF)))))))))))
theorem urR_1:urR fenC fenC=ur1:=by decide
theorem urR_2:urR [] broC=ur2:=by decide
def urRd (X:List Bs):Bs:=(((ltx urRA++ltx X)++ltx urRB)++ltx urRC)
def urSy (X W:List Bs):Bs:=(((((((((urRd X++ltx syA)++ltx W)++ltx syB)++ltx W)++ltx syC)++ltx syD)++ltx syE)++ltx W)++ltx syF)
theorem urSy_eq (X W:List Bs):urSy X W=ltx (urR X W):=by
 unfold urSy urRd urR
 simp only [ltx_app,List.append_assoc]
set_option maxHeartbeats 4000000 in
theorem ureaders_ok (fa fb:FuncId) (X:List Bs) (hX:(ltx X).length≤100) (hfa:∀ l:Bs,l.length≤50000→ACalls Tryz.prog fa [.ptr 0 0] (bldL fa fb true l) (one (.tup []) (bldL fa fb true (l++ltx X)))) :
  ACalls Tryz.prog 61 [.ptr 0 0] (bldL fa fb false []) (one (.tup []) (bldL fa fb true (urRd X))):=by
 have a1:(ltx urRA).length≤200:=by decide
 have a2:(ltx urRB).length≤200:=by decide
 have a3:(ltx urRC).length≤200:=by decide
 have h1:=lines_Lf fa fb false [] urRA (by decide) (by decide) (by decide)
 rw [List.nil_append] at h1
 unfold urRd
 generalize ltx X=x at *
 generalize hA:ltx urRA=A at *
 have h2:=hfa A (by omega)
 have h3:=lines_Lf fa fb true (A++x) urRB (by decide) (by decide) (by rw [List.length_append];omega)
 have h4:=lines_Lf fa fb true ((A++x)++ltx urRB) urRC (by decide) (by decide) (by rw [List.length_append,List.length_append];omega)
 generalize ((A++x)++ltx urRB)++ltx urRC=D at *
 generalize (A++x)++ltx urRB=C at *
 generalize A++x=B at *
 clear hfa hA a1 a2 a3
 unfold urRA at h1
 unfold urRB at h3
 unfold urRC at h4
 unfold bldL bldHL adr at *
 refine jC Tryz.func61 Tryz.ntmps61 (fun w0 β0 ext hβ=>?_)
 repeat (first|refine jS ?_|refine jD ?_|refine jB ?_)
 refine jBb [0,1] h1 ?_
 repeat (first|refine jS ?_|refine jB ?_)
 refine jdrawPT [(0,.p),(1,.p),(2,.p),(3,.p),(4,.r),(5,.p),(6,.p),(7,.p),(8,.m)] rfl (by kernel_rfl) ?_
 repeat (first|refine jS ?_|refine jD ?_|refine jB ?_)
 refine jBb [0,1] h2 ?_
 repeat (first|refine jS ?_|refine jD ?_|refine jB ?_)
 refine jBb [0,1] h3 ?_
 repeat (first|refine jS ?_|refine jD ?_|refine jB ?_)
 refine jBb [0,1] h4 ?_
 repeat (first|refine jS ?_|refine jD ?_|refine jB ?_)
 exact jend [] true rfl rfl rfl ⟨rfl,rfl⟩
set_option maxHeartbeats 4000000 in
theorem usync_ok (fa fb:FuncId) (X W:List Bs) (hX:(ltx X).length≤100) (hW:(ltx W).length≤100) (hfb:∀ l:Bs,l.length≤50000→ACalls Tryz.prog fb [.ptr 0 0] (bldL fa fb true l) (one (.tup []) (bldL fa fb true (l++ltx W)))) :
  ACalls Tryz.prog 62 [.ptr 0 0] (bldL fa fb true (urRd X)) (one (.tup []) (bldL fa fb true (urSy X W))):=by
 have a0:(urRd X).length≤1000:=by
  have a1:(ltx urRA).length≤200:=by decide
  have a2:(ltx urRB).length≤200:=by decide
  have a3:(ltx urRC).length≤200:=by decide
  unfold urRd
  simp only [List.length_append]
  omega
 have a1:(ltx syA).length≤200:=by decide
 have a2:(ltx syB).length≤200:=by decide
 have a3:(ltx syC).length≤200:=by decide
 have a4:(ltx syD).length≤200:=by decide
 have a5:(ltx syE).length≤200:=by decide
 have a6:(ltx syF).length≤200:=by decide
 unfold urSy
 generalize urRd X=R at *
 generalize ltx W=x at *
 have h1:=lines_Lf fa fb true R syA (by decide) (by decide) (by omega)
 generalize e1:R++ltx syA=B1 at *
 have b1:B1.length≤2000:=by rw [←e1,List.length_append];omega
 have h2:=hfb B1 (by omega)
 generalize e2:B1++x=B2 at *
 have b2:B2.length≤3000:=by rw [←e2,List.length_append];omega
 have h3:=lines_Lf fa fb true B2 syB (by decide) (by decide) (by omega)
 generalize e3:B2++ltx syB=B3 at *
 have b3:B3.length≤4000:=by rw [←e3,List.length_append];omega
 have h4:=hfb B3 (by omega)
 generalize e4:B3++x=B4 at *
 have b4:B4.length≤5000:=by rw [←e4,List.length_append];omega
 have h5:=lines_Lf fa fb true B4 syC (by decide) (by decide) (by omega)
 generalize e5:B4++ltx syC=B5 at *
 have b5:B5.length≤6000:=by rw [←e5,List.length_append];omega
 have h6:=lines_Lf fa fb true B5 syD (by decide) (by decide) (by omega)
 generalize e6:B5++ltx syD=B6 at *
 have b6:B6.length≤7000:=by rw [←e6,List.length_append];omega
 have h7:=lines_Lf fa fb true B6 syE (by decide) (by decide) (by omega)
 generalize e7:B6++ltx syE=B7 at *
 have b7:B7.length≤8000:=by rw [←e7,List.length_append];omega
 have h8:=hfb B7 (by omega)
 generalize e8:B7++x=B8 at *
 have b8:B8.length≤9000:=by rw [←e8,List.length_append];omega
 have h9:=lines_Lf fa fb true B8 syF (by decide) (by decide) (by omega)
 generalize e9:B8++ltx syF=B9 at *
 clear hfb e1 e2 e3 e4 e5 e6 e7 e8 e9 a0 a1 a2 a3 a4 a5 a6 b1 b2 b3 b4 b5 b6 b7 b8
 unfold syA at h1
 unfold syB at h3
 unfold syC at h5
 unfold syD at h6
 unfold syE at h7
 unfold syF at h9
 unfold bldL bldHL adr at *
 refine jC Tryz.func62 Tryz.ntmps62 (fun w0 β0 ext hβ=>?_)
 repeat (first|refine jS ?_|refine jD ?_|refine jB ?_)
 refine jBb [0,1] h1 ?_
 repeat (first|refine jS ?_|refine jB ?_)
 refine jdrawPT [(0,.p),(1,.p),(2,.p),(3,.p),(4,.r),(5,.p),(6,.p),(7,.p),(8,.m)] rfl (by kernel_rfl) ?_
 repeat (first|refine jS ?_|refine jD ?_|refine jB ?_)
 refine jBb [0,1] h2 ?_
 repeat (first|refine jS ?_|refine jD ?_|refine jB ?_)
 refine jBb [0,1] h3 ?_
 repeat (first|refine jS ?_|refine jB ?_)
 refine jdrawPT [(0,.p),(1,.p),(2,.p),(3,.p),(4,.r),(5,.p),(6,.p),(7,.p),(8,.m)] rfl (by kernel_rfl) ?_
 repeat (first|refine jS ?_|refine jD ?_|refine jB ?_)
 refine jBb [0,1] h4 ?_
 repeat (first|refine jS ?_|refine jD ?_|refine jB ?_)
 refine jBb [0,1] h5 ?_
 repeat (first|refine jS ?_|refine jD ?_|refine jB ?_)
 refine jBb [0,1] h6 ?_
 repeat (first|refine jS ?_|refine jD ?_|refine jB ?_)
 refine jBb [0,1] h7 ?_
 repeat (first|refine jS ?_|refine jB ?_)
 refine jdrawPT [(0,.p),(1,.p),(2,.p),(3,.p),(4,.r),(5,.p),(6,.p),(7,.p),(8,.m)] rfl (by kernel_rfl) ?_
 repeat (first|refine jS ?_|refine jD ?_|refine jB ?_)
 refine jBb [0,1] h8 ?_
 repeat (first|refine jS ?_|refine jD ?_|refine jB ?_)
 refine jBb [0,1] h9 ?_
 repeat (first|refine jS ?_|refine jD ?_|refine jB ?_)
 exact jend [] true rfl rfl rfl ⟨rfl,rfl⟩
def urTx (f:Int):Bs × Int:=cond (inn f 0 1) (ltx (urC (fb f)),0) ([],1)
theorem utext_ok (f:Int):ACalls Tryz.prog 29 [iv f] [] (one (.tup [sv (urTx f).1,iv (urTx f).2]) []):=by
 have h0:=flav_ok
 by_cases f0:f < 0
 ·have e:urTx f=([],1):=by
   unfold urTx
   rw [show inn f 0 1=false from by cases e:inn f 0 1 with
    | false=>rfl
    | true=>have:=(inn_iff.1 e).1;omega];rfl
  rw [e]
  have c:decide (f < 0)=true:=decide_eq_true f0
  refine jC Tryz.func29 Tryz.ntmps29 (fun w0 β0 ext hβ=>?_)
  repeat (first|refine jS ?_|refine jD ?_|refine jB ?_|refine jV h0 ?_)
  rw [c]
  repeat (first|refine jS ?_|refine jD ?_|refine jB ?_)
  exact jR
 ·have c:decide (f < 0)=false:=decide_eq_false f0
  by_cases f2:f≥2
  ·have e:urTx f=([],1):=by
    unfold urTx
    rw [show inn f 0 1=false from by cases e:inn f 0 1 with
     | false=>rfl
     | true=>have:=(inn_iff.1 e).2;omega];rfl
   rw [e]
   have c2:decide (f≥2)=true:=decide_eq_true f2
   refine jC Tryz.func29 Tryz.ntmps29 (fun w0 β0 ext hβ=>?_)
   repeat (first|refine jS ?_|refine jD ?_|refine jB ?_|refine jV h0 ?_)
   rw [c]
   repeat (first|refine jS ?_|refine jD ?_|refine jB ?_)
   rw [c2]
   repeat (first|refine jS ?_|refine jD ?_|refine jB ?_)
   exact jR
  ·have hf:f=0∨f=1:=by omega
   clear f0 f2 c
   rcases hf with rfl|rfl
   ·have e:urTx 0=(urSy fenC fenC,0):=by rw [urSy_eq,urR_1];rfl
    rw [e]
    have h1:=ureaders_ok 103 103 fenC (by decide) (fun l hl=>fl1_ok _ _ l hl)
    have h2:=usync_ok 103 103 fenC fenC (by decide) (by decide) (fun l hl=>fl1_ok _ _ l hl)
    have h3:=str_okL 103 103 true (urSy fenC fenC) (by rw [urSy_eq,urR_1];decide) (by rw [urSy_eq,urR_1];decide)
    generalize urSy fenC fenC=T at *
    generalize urRd fenC=R at *
    unfold bldL bldHL adr at *
    refine jC Tryz.func29 Tryz.ntmps29 (fun w0 β0 ext hβ=>?_)
    repeat (first|refine jadB 1 1 5 1 rfl rfl rfl rfl ?_|refine jS ?_|refine jD ?_|refine jB ?_|refine jV h0 ?_|refine jo rfl rfl (index_arr rfl rfl rfl rfl rfl (by decide) (by decide)) rfl rfl ?_)
    refine jBb [1,2] h1 ?_
    repeat (first|refine jS ?_|refine jD ?_|refine jB ?_)
    refine jBb [1,2] h2 ?_
    repeat (first|refine jS ?_|refine jD ?_|refine jB ?_)
    refine jBb [1,2] h3 ?_
    repeat (first|refine jS ?_|refine jD ?_|refine jB ?_)
    exact jR
   ·have e:urTx 1=(urSy [] broC,0):=by rw [urSy_eq,urR_2];rfl
    rw [e]
    have h1:=ureaders_ok 104 105 [] (by decide) (fun l hl=>by rw [show l++ltx []=l by simp [ltx]];exact fl2_ok _ _ l)
    have h2:=usync_ok 104 105 [] broC (by decide) (by decide) (fun l hl=>fl3_ok _ _ l hl)
    have h3:=str_okL 104 105 true (urSy [] broC) (by rw [urSy_eq,urR_2];decide) (by rw [urSy_eq,urR_2];decide)
    generalize urSy [] broC=T at *
    generalize urRd []=R at *
    unfold bldL bldHL adr at *
    refine jC Tryz.func29 Tryz.ntmps29 (fun w0 β0 ext hβ=>?_)
    repeat (first|refine jadB 1 1 5 1 rfl rfl rfl rfl ?_|refine jS ?_|refine jD ?_|refine jB ?_|refine jV h0 ?_|refine jo rfl rfl (index_arr rfl rfl rfl rfl rfl (by decide) (by decide)) rfl rfl ?_)
    refine jBb [1,2] h1 ?_
    repeat (first|refine jS ?_|refine jD ?_|refine jB ?_)
    refine jBb [1,2] h2 ?_
    repeat (first|refine jS ?_|refine jD ?_|refine jB ?_)
    refine jBb [1,2] h3 ?_
    repeat (first|refine jS ?_|refine jD ?_|refine jB ?_)
    exact jR
end Go.AL
end
section
set_option maxRecDepth 100000
namespace Go.AL
open Go Go.Proofs
attribute [local irreducible] J
theorem ddLn_else {d:Dd} {c:Int} (h0:d.kind≠0) (h1:d.kind≠1) (h2:d.kind≠2) (h3:d.kind≠3):ddLn d c=setV d.value::setK c::dd4:=by
 unfold ddLn
 split
 ·rename_i e;exact absurd e h0
 ·rename_i e;exact absurd e h1
 ·rename_i e;exact absurd e h2
 ·rename_i e;exact absurd e h3
 ·rfl
theorem setK_ne (k:Int):setK k≠[]:=by unfold setK;simp
theorem setV_ne (k:Int):setV k≠[]:=by unfold setV;simp
def bldG (l:Bs):List AObj:=[.box 127 [.ptr 4 0,.arr 5 (l.length+1)],.arr (l.length+1) 5 1 (l.map encB)]
set_option maxHeartbeats 4000000 in
theorem udeed_ok (g:Gl) (l:Bs) (d:Dd) (n:Nat) (hn:n≤8) (hd:DdB n d) (ha:0≤d.at_∧d.at_≤7) (hl:l.length≤50000) :
  ACalls Tryz.prog 67 [.ptr 4 0,encDd d,iv (n:Int)] (gls g++bldG l) (one (.tup []) (gls g++bldG (l++ltx (ddLn d (4+n+d.at_))))):=by
 have hlen:=ddl_len hd
 have hi1:=itoa_ok g (4+n+d.at_) (by omega) (by omega)
 have hiv:=itoa_ok g d.value (by have:=hd.val;unfold bd at this;omega) (by have:=hd.val;unfold bd at this;omega)
 have hk1:=itoa_len hd.cell
 have hv1:=itoa_len hd.val
 have w1:IntKind.i64.wrap (4+(n:Int))=4+(n:Int):=wrap_id (by omega) (by omega)
 have key:∀ ss:List Bs,ss≠[]→(∀ s∈ss,s≠[])→(ltx ss).length≤60→ACalls Tryz.prog 66 [.ptr 0 0,.slf (ss.map sv)] (bldB true l) (one (.tup []) (bldB true (l++ltx ss))):=fun ss h1 h2 h3=>lines_Bf true l ss h1 h2 (by omega)
 generalize hc:4+(n:Int)+d.at_=c at *
 have w2:IntKind.i64.wrap (4+(n:Int)+d.at_)=c:=by rw [hc];exact wrap_id (by omega) (by omega)
 unfold encDd gls bldG
 by_cases k0:d.kind=0
 ·have e:ddLn d c=dd0:=by unfold ddLn;rw [k0];rfl
  have h1:=key dd0 (by decide) (by decide) (by decide)
  rw [e]
  generalize l++ltx dd0=m at *
  unfold dd0 at h1
  unfold bldB bldHB adr gls at *
  rw [k0]
  refine jC Tryz.func67 Tryz.ntmps67 (fun w0 β0 ext hβ=>?_)
  repeat (first|refine jS ?_|refine jD ?_|refine jB ?_)
  rw [w1]
  repeat (first|refine jS ?_|refine jD ?_|refine jB ?_)
  rw [w2]
  repeat (first|refine jS ?_|refine jD ?_|refine jB ?_)
  refine jBb [0,1,2,3] hi1 ?_
  refine jo rfl rfl (cat_str (a:=[115,101,116,32,114,49,32]) (b:=Lib.itoa c) rfl rfl (by simp only [List.length_cons,List.length_nil];omega)) rfl rfl ?_
  repeat (first|refine jS ?_|refine jD ?_|refine jB ?_)
  refine jBb [4,5] h1 ?_
  repeat (first|refine jS ?_|refine jD ?_|refine jB ?_)
  exact jend [] true rfl rfl rfl ⟨rfl,rfl⟩
 by_cases k1:d.kind=1
 ·have e:ddLn d c=dd1:=by unfold ddLn;rw [k1];rfl
  have h1:=key dd1 (by decide) (by decide) (by decide)
  rw [e]
  generalize l++ltx dd1=m at *
  unfold dd1 at h1
  unfold bldB bldHB adr gls at *
  rw [k1]
  refine jC Tryz.func67 Tryz.ntmps67 (fun w0 β0 ext hβ=>?_)
  repeat (first|refine jS ?_|refine jD ?_|refine jB ?_)
  rw [w1]
  repeat (first|refine jS ?_|refine jD ?_|refine jB ?_)
  rw [w2]
  repeat (first|refine jS ?_|refine jD ?_|refine jB ?_)
  refine jBb [0,1,2,3] hi1 ?_
  refine jo rfl rfl (cat_str (a:=[115,101,116,32,114,49,32]) (b:=Lib.itoa c) rfl rfl (by simp only [List.length_cons,List.length_nil];omega)) rfl rfl ?_
  repeat (first|refine jS ?_|refine jD ?_|refine jB ?_)
  refine jBb [4,5] h1 ?_
  repeat (first|refine jS ?_|refine jD ?_|refine jB ?_)
  exact jend [] true rfl rfl rfl ⟨rfl,rfl⟩
 by_cases k2:d.kind=2
 ·have e:ddLn d c=dd2:=by unfold ddLn;rw [k2];rfl
  have h1:=key dd2 (by decide) (by decide) (by decide)
  rw [e]
  generalize l++ltx dd2=m at *
  unfold dd2 at h1
  unfold bldB bldHB adr gls at *
  rw [k2]
  refine jC Tryz.func67 Tryz.ntmps67 (fun w0 β0 ext hβ=>?_)
  repeat (first|refine jS ?_|refine jD ?_|refine jB ?_)
  rw [w1]
  repeat (first|refine jS ?_|refine jD ?_|refine jB ?_)
  rw [w2]
  repeat (first|refine jS ?_|refine jD ?_|refine jB ?_)
  refine jBb [0,1,2,3] hi1 ?_
  refine jo rfl rfl (cat_str (a:=[115,101,116,32,114,49,32]) (b:=Lib.itoa c) rfl rfl (by simp only [List.length_cons,List.length_nil];omega)) rfl rfl ?_
  repeat (first|refine jS ?_|refine jD ?_|refine jB ?_)
  refine jBb [4,5] h1 ?_
  repeat (first|refine jS ?_|refine jD ?_|refine jB ?_)
  exact jend [] true rfl rfl rfl ⟨rfl,rfl⟩
 by_cases k3:d.kind=3
 ·have e:ddLn d c=setK c::dd3:=by unfold ddLn;rw [k3];rfl
  rw [e] at hlen
  have h1:=key (setK c::dd3) (by simp) (fun s hs=>(List.mem_cons.1 hs).elim (fun e=>e ▸ setK_ne c) (fun h=>(by decide:∀ s∈dd3,s≠[]) s h)) hlen
  rw [e]
  generalize l++ltx (setK c::dd3)=m at *
  unfold dd3 at h1
  unfold bldB bldHB adr gls at *
  rw [k3]
  refine jC Tryz.func67 Tryz.ntmps67 (fun w0 β0 ext hβ=>?_)
  repeat (first|refine jS ?_|refine jD ?_|refine jB ?_)
  rw [w1]
  repeat (first|refine jS ?_|refine jD ?_|refine jB ?_)
  rw [w2]
  repeat (first|refine jS ?_|refine jD ?_|refine jB ?_)
  refine jBb [0,1,2,3] hi1 ?_
  refine jo rfl rfl (cat_str (a:=[115,101,116,32,114,49,32]) (b:=Lib.itoa c) rfl rfl (by simp only [List.length_cons,List.length_nil];omega)) rfl rfl ?_
  rw [show [115,101,116,32,114,49,32]++Lib.itoa c=setK c from rfl]
  generalize setK c=K at *
  repeat (first|refine jS ?_|refine jD ?_|refine jB ?_)
  refine jBb [4,5] h1 ?_
  repeat (first|refine jS ?_|refine jD ?_|refine jB ?_)
  exact jend [] true rfl rfl rfl ⟨rfl,rfl⟩
 ·have e:=ddLn_else (c:=c) k0 k1 k2 k3
  rw [e] at hlen
  have h1:=key (setV d.value::setK c::dd4) (by simp) (fun s hs=>by
   rcases List.mem_cons.1 hs with rfl|hs
   ·exact setV_ne _
   rcases List.mem_cons.1 hs with rfl|hs
   ·exact setK_ne c
   ·exact (by decide:∀ s∈dd4,s≠[]) s hs) hlen
  rw [e]
  generalize l++ltx (setV d.value::setK c::dd4)=m at *
  unfold dd4 at h1
  unfold bldB bldHB adr gls at *
  have q0:(d.kind == 0)=false:=beq_eq_false_iff_ne.2 k0
  have q1:(d.kind == 1)=false:=beq_eq_false_iff_ne.2 k1
  have q2:(d.kind == 2)=false:=beq_eq_false_iff_ne.2 k2
  have q3:(d.kind == 3)=false:=beq_eq_false_iff_ne.2 k3
  refine jC Tryz.func67 Tryz.ntmps67 (fun w0 β0 ext hβ=>?_)
  repeat (first|refine jS ?_|refine jD ?_|refine jB ?_)
  rw [w1]
  repeat (first|refine jS ?_|refine jD ?_|refine jB ?_)
  rw [w2]
  repeat (first|refine jS ?_|refine jD ?_|refine jB ?_)
  refine jBb [0,1,2,3] hi1 ?_
  refine jo rfl rfl (cat_str (a:=[115,101,116,32,114,49,32]) (b:=Lib.itoa c) rfl rfl (by simp only [List.length_cons,List.length_nil];omega)) rfl rfl ?_
  rw [show [115,101,116,32,114,49,32]++Lib.itoa c=setK c from rfl]
  generalize setK c=K at *
  repeat (first|refine jS ?_|refine jD ?_|refine jB ?_)
  rw [q0]
  repeat (first|refine jS ?_|refine jD ?_|refine jB ?_)
  rw [q1]
  repeat (first|refine jS ?_|refine jD ?_|refine jB ?_)
  rw [q2]
  repeat (first|refine jS ?_|refine jD ?_|refine jB ?_)
  rw [q3]
  repeat (first|refine jS ?_|refine jD ?_|refine jB ?_)
  refine jBb [0,1,2,3] hiv ?_
  refine jo rfl rfl (cat_str (a:=[115,101,116,32,114,48,32]) (b:=Lib.itoa d.value) rfl rfl (by simp only [List.length_cons,List.length_nil];omega)) rfl rfl ?_
  rw [show [115,101,116,32,114,48,32]++Lib.itoa d.value=setV d.value from rfl]
  generalize setV d.value=K2 at *
  repeat (first|refine jS ?_|refine jD ?_|refine jB ?_)
  refine jBb [4,5] h1 ?_
  repeat (first|refine jS ?_|refine jD ?_|refine jB ?_)
  exact jend [] true rfl rfl rfl ⟨rfl,rfl⟩
end Go.AL
end
section
set_option maxRecDepth 100000
namespace Go.AL
open Go Go.Proofs
attribute [local irreducible] J
instance:Inhabited (List Dd):=⟨[]⟩
def urU (b:Bool) (ps:List (List Dd)) (k:Nat):Bs:=ltx (urPre b)++ltx (urThr ps.length (ps.take k) 0)
def urD (n:Nat) (C:Bs) (l:List Dd) (j:Nat):Bs:=C++ltx ((l.take j).flatMap fun d=>ddLn d (4+n+d.at_))
theorem urU_0 (b:Bool) (ps:List (List Dd)):urU b ps 0=spT++ltx (urC b):=by
 unfold urU urPre urThr
 rw [←spT_eq,ltx_app]
 simp [ltx]
theorem urU_all (b:Bool) (ps:List (List Dd)):urU b ps ps.length=urS b ps:=by
 unfold urU urS urLn
 rw [ltx_app,List.take_length]
theorem urU_succ (b:Bool) (ps:List (List Dd)) {k:Nat} (h:k < ps.length):urU b ps (k+1)=urD ps.length (urU b ps k++ltx [tlab k]) (at' ps (k:Int)) (at' ps (k:Int)).length++ltx kH:=by
 unfold urU urD urThr
 rw [List.take_succ_eq_append_getElem h,List.zipIdx_append,List.flatMap_append,at_nat ps k h,List.length_take,Nat.min_eq_left (Nat.le_of_lt h),List.take_length]
 simp only [List.zipIdx_cons,List.zipIdx_nil,List.flatMap_cons,List.flatMap_nil,List.append_nil,Nat.zero_add]
 unfold pthLn
 rw [ltx_app,show tlab k::((ps[k].flatMap fun d=>ddLn d (4+ps.length+d.at_))++kH)=[tlab k]++((ps[k].flatMap fun d=>ddLn d (4+ps.length+d.at_))++kH) from rfl,ltx_app,ltx_app]
 simp only [List.append_assoc]
theorem urD_0 (n:Nat) (C:Bs) (l:List Dd):urD n C l 0=C:=by unfold urD;simp [ltx]
theorem urD_succ (n:Nat) (C:Bs) (l:List Dd) {j:Nat} (h:j < l.length):urD n C l (j+1)=urD n C l j++ltx (ddLn (at' l (j:Int)) (4+n+(at' l (j:Int)).at_)):=by
 unfold urD
 rw [List.take_succ_eq_append_getElem h,List.flatMap_append,ltx_app,at_nat l j h]
 simp only [List.flatMap_cons,List.flatMap_nil,List.append_nil,List.append_assoc]
theorem urD_len {n:Nat} (C:Bs) {l:List Dd} (h:∀ d∈l,DdB n d) (j:Nat):(urD n C l j).length≤C.length+60*l.length:=by
 unfold urD
 have:=flatL (fun d:Dd=>ddLn d (4+n+d.at_)) 60 (l.take j) fun d hd=>ddl_len (h d (List.mem_of_mem_take hd))
 rw [List.length_append]
 have h2:(l.take j).length≤l.length:=by rw [List.length_take];omega
 have:=Nat.mul_le_mul_left 60 h2
 omega
theorem urU_len (b:Bool) {ps:List (List Dd)} (h8:ps.length≤8) (hr:∀ l∈ps,l.length≤8) {k:Nat} (hk:k≤ps.length) (hp:∀ l∈ps.take k,planB l=true):(urU b ps k).length≤8000:=by
 unfold urU
 rw [List.length_append]
 have h1:(ltx (urPre b)).length≤1500:=by cases b<;>decide +kernel
 have:=flatL (fun p:List Dd × Nat=>pthLn ps.length p.2 p.1) 600 ((ps.take k).zipIdx 0) fun p hp'=>pth_len (by have:=zipP_lt hp';rw [List.length_take] at this;omega) (plan_dd (hp _ (List.fst_mem_of_mem_zipIdx hp')) h8) (hr _ (List.mem_of_mem_take (List.fst_mem_of_mem_zipIdx hp')))
 rw [List.length_zipIdx,List.length_take] at this
 unfold urThr
 omega
def urPg (f:Int) (ps:List (List Dd)):Bs × Int:=cond (decide (plWhy f ps=0)) (urS (fb f) ps,0) ([],plWhy f ps)
theorem urPg_no {f:Int} {ps:List (List Dd)} {n:Int} (h:plWhy f ps=n) (hn:n≠0):urPg f ps=([],n):=by
 unfold urPg
 rw [h,decide_eq_false hn];rfl
theorem uplan_ok (l:List Dd) (hl:l.length≤1000000):ACalls Tryz.prog 65 [encPl l] [] (one (bv (planB l)) []):=by
 have hmay:=fun d=>umay_ok d
 unfold encPl
 refine jC Tryz.func65 Tryz.ntmps65 (fun w0 β0 ext hβ=>?_)
 repeat (first|refine jS ?_|refine jD ?_|refine jB ?_)
 refine jloop 0 (fun k:Nat=>k≤l.length∧∀ q,q < k→okD (dpt (l.take q)) (at' l (q:Int))=true) [3,6,7,8] (fun k=>[.v (.int .i64 (dpt (l.take k))),.sl (l.map encDd),.v (.int .i64 ((l.map encDd).length:Int)),.v (.int .i64 (k:Int))])
  (fun k=>[]) (fun k=>l.length-k) 0 (jbl hβ) ⟨Nat.zero_le _,fun q h=>absurd h (by omega)⟩ rfl rfl (fun k hk=>?_)
 obtain ⟨hk,hok⟩:=hk
 obtain ⟨n0,n3⟩:=dpt_bd k hk hok
 repeat (first|refine jS ?_|refine jD ?_|refine jB ?_)
 refine jc rfl rfl rfl (fun h=>?_) (fun h=>?_)
 ·have h:=of_decide_eq_true h
  rw [List.length_map] at h
  have hk2:k < l.length:=by omega
  have hidx:IntKind.i64.wrap ((k:Int)+1)=((k+1:Nat):Int):=idx_next hk2 (by omega)
  have hno:=@goB_no l k hk2
  have hsu:=@dpt_succ l k hk2
  have hnx:okD (dpt (l.take k)) (at' l (k:Int))=true→∀ q,q < k+1→okD (dpt (l.take q)) (at' l (q:Int))=true:=fun h0 q hq=>by
   by_cases e:q=k
   ·subst e;exact h0
   ·exact hok q (by omega)
  repeat (first|refine jS ?_|refine jD ?_|refine jB ?_|refine jI (Int.natCast_nonneg k) h ?_)
  generalize at' l (k:Int)=d at *
  generalize hn:dpt (l.take k)=n at *
  have hmay:=hmay d
  have u1:=uin_ok (n+1) 0 3
  have u2:=uin_ok (n-1) 0 3
  have u3:=uin_ok n 0 3
  have v3:inn n 0 3=true:=inn_iff.2 ⟨n0,n3⟩
  have w1:IntKind.i64.wrap (n+1)=n+1:=wrap_id (by omega) (by omega)
  have w2:IntKind.i64.wrap (n-1)=n-1:=wrap_id (by omega) (by omega)
  rw [v3] at u3
  unfold encDd at hmay
  cases hm:mayD d with
  | false =>
   rw [hm] at hmay
   rw [hno (by unfold okD;rw [hm];rfl)]
   repeat (first|refine jS ?_|refine jD ?_|refine jB ?_|refine jV hmay ?_)
   exact jR
  | true =>
   rw [hm] at hmay
   by_cases k0:d.kind=0
   ·have q0:(d.kind == 0)=true:=by rw [k0];rfl
    have e:dn1 n d=n+1:=by unfold dn1;rw [decide_eq_true k0];rfl
    repeat (first|refine jS ?_|refine jD ?_|refine jB ?_|refine jV hmay ?_)
    rw [q0]
    repeat (first|refine jS ?_|refine jD ?_|refine jB ?_)
    rw [w1]
    cases hi:inn (n+1) 0 3 with
    | false =>
     rw [hi] at u1
     rw [hno (by unfold okD;rw [e,hi,Bool.and_false,Bool.and_false])]
     repeat (first|refine jS ?_|refine jD ?_|refine jB ?_|refine jV u1 ?_)
     exact jR
    | true =>
     rw [hi] at u1
     have hg:okD n d=true:=okD_iff.2 ⟨hm,fun ⟨a,_⟩=>by omega,by rw [e];exact inn_iff.1 hi⟩
     repeat (first|refine jS ?_|refine jD ?_|refine jB ?_|refine jV u1 ?_)
     refine jnext (k+1) ⟨hk2,hnx hg⟩ (by omega) rfl rfl rfl ?_ rfl
     rw [hidx,hsu,e]<;>rfl
   by_cases k1:d.kind=1
   ·have q0:(d.kind == 0)=false:=beq_eq_false_iff_ne.2 k0
    have q1:(d.kind == 1)=true:=by rw [k1];rfl
    have e:dn1 n d=n-1:=by unfold dn1;rw [decide_eq_false k0,decide_eq_true k1];rfl
    repeat (first|refine jS ?_|refine jD ?_|refine jB ?_|refine jV hmay ?_)
    rw [q0]
    repeat (first|refine jS ?_|refine jD ?_|refine jB ?_)
    rw [q1]
    repeat (first|refine jS ?_|refine jD ?_|refine jB ?_)
    rw [w2]
    cases hi:inn (n-1) 0 3 with
    | false =>
     rw [hi] at u2
     rw [hno (by unfold okD;rw [e,hi,Bool.and_false,Bool.and_false])]
     repeat (first|refine jS ?_|refine jD ?_|refine jB ?_|refine jV u2 ?_)
     exact jR
    | true =>
     rw [hi] at u2
     have hg:okD n d=true:=okD_iff.2 ⟨hm,fun ⟨a,_⟩=>by omega,by rw [e];exact inn_iff.1 hi⟩
     repeat (first|refine jS ?_|refine jD ?_|refine jB ?_|refine jV u2 ?_)
     refine jnext (k+1) ⟨hk2,hnx hg⟩ (by omega) rfl rfl rfl ?_ rfl
     rw [hidx,hsu,e]<;>rfl
   have q0:(d.kind == 0)=false:=beq_eq_false_iff_ne.2 k0
   have q1:(d.kind == 1)=false:=beq_eq_false_iff_ne.2 k1
   have e:dn1 n d=n:=by unfold dn1;rw [decide_eq_false k0,decide_eq_false k1];rfl
   by_cases k2:d.kind=2
   ·have q2:(d.kind == 2)=true:=by rw [k2];rfl
    by_cases hn2:n > 0
    ·rw [hno (by unfold okD;rw [decide_eq_true k2,decide_eq_true hn2];simp)]
     repeat (first|refine jS ?_|refine jD ?_|refine jB ?_|refine jV hmay ?_)
     rw [q0]
     repeat (first|refine jS ?_|refine jD ?_|refine jB ?_)
     rw [q1]
     repeat (first|refine jS ?_|refine jD ?_|refine jB ?_)
     rw [q2]
     repeat (first|refine jS ?_|refine jD ?_|refine jB ?_)
     rw [show decide (n > 0)=true from decide_eq_true hn2]
     repeat (first|refine jS ?_|refine jD ?_|refine jB ?_)
     exact jR
    ·have hg:okD n d=true:=okD_iff.2 ⟨hm,fun ⟨_,a⟩=>hn2 a,by rw [e];exact ⟨n0,n3⟩⟩
     repeat (first|refine jS ?_|refine jD ?_|refine jB ?_|refine jV hmay ?_)
     rw [q0]
     repeat (first|refine jS ?_|refine jD ?_|refine jB ?_)
     rw [q1]
     repeat (first|refine jS ?_|refine jD ?_|refine jB ?_)
     rw [q2]
     repeat (first|refine jS ?_|refine jD ?_|refine jB ?_)
     rw [show decide (n > 0)=false from decide_eq_false hn2]
     repeat (first|refine jS ?_|refine jD ?_|refine jB ?_|refine jV u3 ?_)
     refine jnext (k+1) ⟨hk2,hnx hg⟩ (by omega) rfl rfl rfl ?_ rfl
     rw [hidx,hsu,e]<;>rfl
   ·have q2:(d.kind == 2)=false:=beq_eq_false_iff_ne.2 k2
    have hg:okD n d=true:=okD_iff.2 ⟨hm,fun ⟨a,_⟩=>k2 a,by rw [e];exact ⟨n0,n3⟩⟩
    repeat (first|refine jS ?_|refine jD ?_|refine jB ?_|refine jV hmay ?_)
    rw [q0]
    repeat (first|refine jS ?_|refine jD ?_|refine jB ?_)
    rw [q1]
    repeat (first|refine jS ?_|refine jD ?_|refine jB ?_)
    rw [q2]
    repeat (first|refine jS ?_|refine jD ?_|refine jB ?_|refine jV u3 ?_)
    refine jnext (k+1) ⟨hk2,hnx hg⟩ (by omega) rfl rfl rfl ?_ rfl
    rw [hidx,hsu,e]<;>rfl
 ·have h:=of_decide_eq_false h
  rw [List.length_map] at h
  have:k=l.length:=by omega
  subst this
  rw [List.take_length]
  rw [planB_end hok]
  have e:(dpt l == 0)=decide (dpt l=0):=by by_cases h:dpt l=0<;>simp [h]
  repeat (first|refine jS ?_|refine jD ?_|refine jB ?_)
  rw [e]
  exact jR
end Go.AL
end
