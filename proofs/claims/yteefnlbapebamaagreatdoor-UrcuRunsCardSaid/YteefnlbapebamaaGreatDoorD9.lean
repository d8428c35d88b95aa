/-
  Part 9 of the proof texts: the program logic over the model, then the contracts of the functions that the laws reach. No conditions.
-/
import Derived.Test.YteefnlbapebamaaGreatDoorD8
import Derived.WalkKit
import Derived.LaidEql
import Derived.Stop.Asserts
import Derived.RowKitTokens
set_option linter.unusedVariables false
set_option linter.unusedSimpArgs false
set_option maxHeartbeats 2000000
section
set_option maxRecDepth 100000
namespace Go.AL
open Go Go.Proofs
attribute [local irreducible] J
theorem canb_ok (n:Int):ACalls Tryz.prog 187 [iv n] [] (one (bv (decide (n > 0))) []):=by
 refine jC Tryz.func187 Tryz.ntmps187 (fun w0 β0 ext hβ=>?_)
 repeat (first|refine jS ?_|refine jD ?_|refine jB ?_)
 exact jR
theorem can_stop (w:Wd) (k:Nat) (t:Thr) (i:Ins) (hk:k < w.tso.bufs.length) (hs:t.state≠0):ACalls Tryz.prog 145 [.ptr 0 0] (swH w k t i) (one (bv false) (swH w k t i)):=by
 have hs:(t.state != 0)=true:=by rw [bne_iff_ne];exact hs
 have hk1:(k:Int) < w.tso.bufs.length:=by omega
 unfold swH swC
 refine jC Tryz.func145 Tryz.ntmps145 (fun w0 β0 ext hβ=>?_)
 repeat (first|refine jS ?_|refine jD ?_|refine jB ?_|refine jI (Int.natCast_nonneg k) hk1 ?_)
 rw [hs]
 repeat (first|refine jS ?_|refine jD ?_|refine jB ?_)
 exact jR
theorem can_17 (w:Wd) (k:Nat) (t:Thr) (a b c:Int) (hk:k < w.tso.bufs.length) (hs:t.state=0):ACalls Tryz.prog 145 [.ptr 0 0] (swH w k t ⟨17,a,b,c⟩) (one (bv (canOp w k t ⟨17,a,b,c⟩)) (swH w k t ⟨17,a,b,c⟩)):=by
 have hs:(t.state != 0)=false:=by rw [bne_eq_false_iff_eq];exact hs
 have hk1:(k:Int) < w.tso.bufs.length:=by omega
 have h1:decide ((((at' w.tso.bufs (k:Int)).map encPut).length:Int) < w.tso.depth)=decide (((bufAt w.tso k).length:Int) < w.tso.depth):=by rw [List.length_map];rfl
 have h2:(w.tso.depth == 0)=decide (w.tso.depth=0):=rfl
 unfold swH swC canOp
 simp only
 refine jC Tryz.func145 Tryz.ntmps145 (fun w0 β0 ext hβ=>?_)
 repeat (first|refine jS ?_|refine jD ?_|refine jB ?_|refine jI (Int.natCast_nonneg k) hk1 ?_)
 rw [hs]
 repeat (first|refine jS ?_|refine jD ?_|refine jB ?_)
 rw [h1]
 cases hd:decide (((bufAt w.tso k).length:Int) < w.tso.depth)
 all_goals (
  repeat (first|refine jS ?_|refine jD ?_|refine jB ?_)
 )
 all_goals exact jR
theorem can_wt (op:Int) (hop:op=18∨op=19∨op=20∨op=21) (w:Wd) (k:Nat) (t:Thr) (a b c:Int) (hk:k < w.tso.bufs.length) (hs:t.state=0):ACalls Tryz.prog 145 [.ptr 0 0] (swH w k t ⟨op,a,b,c⟩) (one (bv (canOp w k t ⟨op,a,b,c⟩)) (swH w k t ⟨op,a,b,c⟩)):=by
 have hs:(t.state != 0)=false:=by rw [bne_eq_false_iff_eq];exact hs
 have hk1:(k:Int) < w.tso.bufs.length:=by omega
 have h1:((((at' w.tso.bufs (k:Int)).map encPut).length:Int) == 0)=decide ((bufAt w.tso k).length=0):=by rw [List.length_map,int_beq];exact decide_eq_decide.2 (by rw [bufAt_at];omega)
 rcases hop with rfl|rfl|rfl|rfl
 all_goals (
  unfold swH swC canOp
  simp only
  refine jC Tryz.func145 Tryz.ntmps145 (fun w0 β0 ext hβ=>?_)
  repeat (first|refine jS ?_|refine jD ?_|refine jB ?_|refine jI (Int.natCast_nonneg k) hk1 ?_)
  rw [hs]
  repeat (first|refine jS ?_|refine jD ?_|refine jB ?_)
  rw [h1]
 )
 all_goals exact jR
theorem can_22 (w:Wd) (k:Nat) (t:Thr) (a b c:Int) (hk:k < w.tso.bufs.length) (hs:t.state=0) (hl:t.left.length≤1000000):ACalls Tryz.prog 145 [.ptr 0 0] (swH w k t ⟨22,a,b,c⟩) (one (bv (canOp w k t ⟨22,a,b,c⟩)) (swH w k t ⟨22,a,b,c⟩)):=by
 have hs:(t.state != 0)=false:=by rw [bne_eq_false_iff_eq];exact hs
 have hk1:(k:Int) < w.tso.bufs.length:=by omega
 have h1:=contains_int 187 t.left (fun n=>decide (n > 0)) hl (fun n _=>canb_ok n)
 unfold swH swC canOp
 simp only
 refine jC Tryz.func145 Tryz.ntmps145 (fun w0 β0 ext hβ=>?_)
 repeat (first|refine jS ?_|refine jD ?_|refine jB ?_|refine jI (Int.natCast_nonneg k) hk1 ?_)
 rw [hs]
 repeat (first|refine jS ?_|refine jD ?_|refine jB ?_|refine jw h1 rfl rfl rfl rfl rfl rfl ?_)
 exact jR
theorem can_23 (w:Wd) (k:Nat) (t:Thr) (a b c:Int) (hk:k < w.tso.bufs.length) (hs:t.state=0) (h:TsR w.tso) (a0:0≤a) (a8:a < 8) (b0:0≤b) (b8:b < 8) :
  ACalls Tryz.prog 145 [.ptr 0 0] (swH w k t ⟨23,a,b,c⟩) (one (bv (canOp w k t ⟨23,a,b,c⟩)) (swH w k t ⟨23,a,b,c⟩)):=by
 have hs:(t.state != 0)=false:=by rw [bne_eq_false_iff_eq];exact hs
 have hk1:(k:Int) < w.tso.bufs.length:=by omega
 have h1:((((at' w.tso.bufs (k:Int)).map encPut).length:Int) == 0)=decide ((bufAt w.tso k).length=0):=by rw [List.length_map,int_beq];exact decide_eq_decide.2 (by rw [bufAt_at];omega)
 have h2:=load_ok w.tso.mem (rg t b) h.mem
 have hg:=sw_get w k t ⟨23,a,b,c⟩ b0 b8
 have hg2:=sw_get w k t ⟨23,a,b,c⟩ a0 a8
 unfold canOp
 simp only
 unfold encMem mCells ivs at h2
 generalize mLoad w.tso.mem (rg t b)=ld at *
 obtain ⟨v,e⟩:=ld
 simp only at *
 have h3:(e != 0) = !decide (e=0):=rfl
 have h4:(v != rg t a) = !decide (v=rg t a):=rfl
 unfold swH
 unfold swC at *
 refine jC Tryz.func145 Tryz.ntmps145 (fun w0 β0 ext hβ=>?_)
 repeat (first|refine jS ?_|refine jD ?_|refine jB ?_|refine jI (Int.natCast_nonneg k) hk1 ?_)
 rw [hs]
 repeat (first|refine jS ?_|refine jD ?_|refine jB ?_|refine jo rfl rfl (index_arr rfl rfl rfl rfl rfl b0 b8) rfl rfl ?_|refine jo rfl rfl (load_dsem (r:=ty3) rfl rfl rfl hg) rfl rfl ?_|refine jV h2 ?_)
 rw [h1]
 cases hd:decide ((bufAt w.tso k).length=0) with
 | false =>
  repeat (first|refine jS ?_|refine jD ?_|refine jB ?_)
  exact jR
 | true =>
  repeat (first|refine jS ?_|refine jD ?_|refine jB ?_)
  rw [h3]
  cases he:decide (e=0) with
  | false =>
   repeat (first|refine jS ?_|refine jD ?_|refine jB ?_)
   exact jR
  | true =>
   repeat (first|refine jS ?_|refine jD ?_|refine jB ?_|refine jo rfl rfl (index_arr rfl rfl rfl rfl rfl a0 a8) rfl rfl ?_|refine jo rfl rfl (load_dsem (r:=ty3) rfl rfl rfl hg2) rfl rfl ?_)
   rw [h4]
   exact jR
theorem can_else (w:Wd) (k:Nat) (t:Thr) (i:Ins) (hk:k < w.tso.bufs.length) (hs:t.state=0) (hop:i.op < 17∨23 < i.op):ACalls Tryz.prog 145 [.ptr 0 0] (swH w k t i) (one (bv true) (swH w k t i)):=by
 have hs:(t.state != 0)=false:=by rw [bne_eq_false_iff_eq];exact hs
 have hk1:(k:Int) < w.tso.bufs.length:=by omega
 have q:∀ n:Int,17≤n→n≤23→(i.op == n)=false:=fun n a b=>by rw [beq_eq_false_iff_ne];omega
 unfold swH swC
 refine jC Tryz.func145 Tryz.ntmps145 (fun w0 β0 ext hβ=>?_)
 repeat (first|refine jS ?_|refine jD ?_|refine jB ?_|refine jI (Int.natCast_nonneg k) hk1 ?_)
 rw [hs]
 repeat (first|refine jS ?_|refine jD ?_|refine jB ?_)
 rw [q 17 (by decide) (by decide)]
 repeat (first|refine jS ?_|refine jD ?_|refine jB ?_)
 rw [q 18 (by decide) (by decide)]
 repeat (first|refine jS ?_|refine jD ?_|refine jB ?_)
 rw [q 19 (by decide) (by decide)]
 repeat (first|refine jS ?_|refine jD ?_|refine jB ?_)
 rw [q 20 (by decide) (by decide)]
 repeat (first|refine jS ?_|refine jD ?_|refine jB ?_)
 rw [q 21 (by decide) (by decide)]
 repeat (first|refine jS ?_|refine jD ?_|refine jB ?_)
 rw [q 22 (by decide) (by decide)]
 repeat (first|refine jS ?_|refine jD ?_|refine jB ?_)
 rw [q 23 (by decide) (by decide)]
 repeat (first|refine jS ?_|refine jD ?_|refine jB ?_)
 exact jR
end Go.AL
end
section
set_option maxRecDepth 100000
namespace Go.AL
open Go Go.Proofs
attribute [local irreducible] J
theorem scan_ok (w:Wd) (k:Nat) (t:Thr) (i:Ins) (hk:k < w.tso.bufs.length) (h:TsR w.tso) (hl:t.left.length≤1000000) (hr:i.op=23→(0≤i.a∧i.a < 8)∧0≤i.b∧i.b < 8) :
  ACalls Tryz.prog 145 [.ptr 0 0] (swH w k t i) (one (bv (decide (t.state=0)&&canOp w k t i)) (swH w k t i)):=by
 cases hs:decide (t.state=0) with
 | false=>exact can_stop w k t i hk (of_decide_eq_false hs)
 | true =>
  have hs:=of_decide_eq_true hs
  rw [Bool.true_and]
  by_cases hop:i.op < 17∨23 < i.op
  ·have e:canOp w k t i=true:=by
    unfold canOp
    split<;>first|rfl|(exfalso;omega)
   rw [e]
   exact can_else w k t i hk hs hop
  ·obtain ⟨op,a,b,c⟩:=i
   simp only at hop hr
   rcases (by omega:op=17∨op=18∨op=19∨op=20∨op=21∨op=22∨op=23) with rfl|rfl|rfl|rfl|rfl|rfl|rfl
   ·exact can_17 w k t a b c hk hs
   ·exact can_wt 18 (by decide) w k t a b c hk hs
   ·exact can_wt 19 (by decide) w k t a b c hk hs
   ·exact can_wt 20 (by decide) w k t a b c hk hs
   ·exact can_wt 21 (by decide) w k t a b c hk hs
   ·exact can_22 w k t a b c hk hs hl
   ·obtain ⟨⟨a0,a8⟩,b0,b8⟩:=hr rfl
    exact can_23 w k t a b c hk hs h a0 a8 b0 b8
structure WdR (w:Wd):Prop where
 code:rightC w.code=true
 tso:TsR w.tso
 len:w.thr.length=w.tso.bufs.length
 thr:∀ t∈w.thr,thRight t=true∧(t.left.length=0∨t.left.length=w.thr.length)
theorem wRight_iff {w:Wd}:wRight w=true↔WdR w:=by
 unfold wRight
 simp only [Bool.and_eq_true,Bool.or_eq_true,decide_eq_true_eq,List.all_eq_true,tsRight_iff]
 exact ⟨fun ⟨a,b,c,d⟩=>⟨a,b,c,d⟩,fun ⟨a,b,c,d⟩=>⟨a,b,c,d⟩⟩
theorem thRight_len {t:Thr} (h:thRight t=true):t.frames.length≤6∧t.left.length≤8:=by
 unfold thRight at h
 simp only [Bool.and_eq_true,decide_eq_true_eq] at h
 exact ⟨h.2.1,h.2.2.1⟩
theorem WdR.size {w:Wd} (h:WdR w):WdSz w:=by
 have h1:=h.code
 unfold rightC at h1
 rw [Bool.and_eq_true,decide_eq_true_eq] at h1
 refine ⟨by omega,h.tso.size,by have:=h.len;have:=h.tso.sz;omega,fun t ht=>?_⟩
 have:=thRight_len (h.thr t ht).1
 omega
theorem WdR.cl {w:Wd} (h:WdR w):w.code.length≤1000:=by
 have h1:=h.code
 unfold rightC at h1
 rw [Bool.and_eq_true,decide_eq_true_eq] at h1
 exact h1.1
theorem thrAt_at {w:Wd} {k:Nat} (h:k < w.thr.length):thrAt w k=at' w.thr (k:Int):=by
 rw [at_nat _ k h];unfold thrAt;simp [List.getD,h]
theorem at_out (w:Wd) (k:Int) (h:WdR w) (hk:inT w k=false):ACalls Tryz.prog 144 [encWd w,iv k] [] (one (.tup [.v (.pointer none),iv 3]) []):=by
 have h1:=wd_right w h.size
 rw [wRight_iff.2 h] at h1
 have e:inT w k=(!decide (k < 0) && !decide (k≥((w.thr.map encThr).length:Int))):=by
  unfold inT inn
  rw [List.length_map,dec_not (p:=k < 0) (q:=k≥0) (by omega),dec_not (p:=k≥(w.thr.length:Int)) (q:=k≤(w.thr.length:Int)-1) (by omega),Bool.not_not,Bool.not_not]
 rw [e] at hk
 unfold encWd wCells ivs at *
 cases h2:decide (k < 0) with
 | true =>
  refine jC Tryz.func144 Tryz.ntmps144 (fun w0 β0 ext hβ=>?_)
  repeat (first|refine jS ?_|refine jD ?_|refine jB ?_|refine jV h1 ?_)
  rw [h2]
  repeat (first|refine jS ?_|refine jD ?_|refine jB ?_)
  exact jR
 | false =>
  rw [h2] at hk
  have h3:decide (k≥((w.thr.map encThr).length:Int))=true:=by simpa using hk
  refine jC Tryz.func144 Tryz.ntmps144 (fun w0 β0 ext hβ=>?_)
  repeat (first|refine jS ?_|refine jD ?_|refine jB ?_|refine jV h1 ?_)
  rw [h2]
  repeat (first|refine jS ?_|refine jD ?_|refine jB ?_)
  rw [h3]
  repeat (first|refine jS ?_|refine jD ?_|refine jB ?_)
  exact jR
theorem at_ok (w:Wd) (k:Nat) (h:WdR w) (hk:k < w.thr.length):ACalls Tryz.prog 144 [encWd w,iv (k:Int)] [] (one (.tup [.ptr 0 0,iv 0]) (swH w k (thrAt w k) (instrAt w (thrAt w k)))):=by
 have h1:=wd_right w h.size
 rw [wRight_iff.2 h] at h1
 have h2:decide ((k:Int) < 0)=false:=decide_eq_false (by omega)
 have h3:decide ((k:Int)≥((w.thr.map encThr).length:Int))=false:=decide_eq_false (by rw [List.length_map];omega)
 have hk1:(k:Int) < w.thr.length:=by omega
 have htm:=at_mem hk
 have hpc:=thRight_pc (h.thr _ htm).1
 rw [thrAt_at hk]
 generalize hT:at' w.thr (k:Int)=t at *
 have h4:decide (t.pc < ((w.code.map encIns).length:Int))=decide (t.pc < w.code.length):=by rw [List.length_map]
 unfold instrAt
 rw [show w.code.getD t.pc.toNat default=at' w.code t.pc from rfl]
 unfold encWd wCells ivs at *
 cases hp:decide (t.pc < (w.code.length:Int)) with
 | false =>
  rw [hp] at h4
  simp only [cond_false]
  unfold swH swC
  refine jC Tryz.func144 Tryz.ntmps144 (fun w0 β0 ext hβ=>?_)
  repeat (first|refine jS ?_|refine jD ?_|refine jB ?_|refine jV h1 ?_)
  rw [h2]
  repeat (first|refine jS ?_|refine jD ?_|refine jB ?_)
  rw [h3]
  repeat (first|refine jS ?_|refine jD ?_|refine jB ?_|refine jI (Int.natCast_nonneg k) hk1 ?_)
  rw [hT]
  repeat (first|refine jS ?_|refine jD ?_|refine jB ?_)
  rw [h4]
  repeat (first|refine jS ?_|refine jD ?_|refine jB ?_)
  exact jret [1] true rfl rfl rfl ⟨rfl,rfl⟩
 | true =>
  rw [hp] at h4
  simp only [cond_true]
  have hp1:=of_decide_eq_true hp
  unfold swH swC
  refine jC Tryz.func144 Tryz.ntmps144 (fun w0 β0 ext hβ=>?_)
  repeat (first|refine jS ?_|refine jD ?_|refine jB ?_|refine jV h1 ?_)
  rw [h2]
  repeat (first|refine jS ?_|refine jD ?_|refine jB ?_)
  rw [h3]
  repeat (first|refine jS ?_|refine jD ?_|refine jB ?_|refine jI (Int.natCast_nonneg k) hk1 ?_)
  rw [hT]
  repeat (first|refine jS ?_|refine jD ?_|refine jB ?_)
  rw [h4]
  repeat (first|refine jS ?_|refine jD ?_|refine jB ?_|refine jI hpc.1 hp1 ?_)
  exact jret [1] true rfl rfl rfl ⟨rfl,rfl⟩
end Go.AL
end
section
set_option maxRecDepth 100000
namespace Go.AL
open Go Go.Proofs
attribute [local irreducible] J
structure DoR (w:Wd) (k:Nat) (t:Thr):Prop where
 tso:TsR w.tso
 k:k < w.tso.bufs.length
 frames:t.frames.length≤6
 left:t.left.length≤8
 pc:0≤t.pc∧t.pc≤1000
def rgs (v:Int):Prop:=0≤v∧v < 8
theorem pc_in {t:Thr} (h:0≤t.pc∧t.pc≤1000):IntKind.i64.wrap (t.pc+1)=t.pc+1:=by rw [wrap_id]<;>omega
theorem pc_out {t:Thr} (h:0≤t.pc∧t.pc≤1000):IntKind.i64.wrap (t.pc+1-1)=t.pc:=by rw [wrap_id]<;>omega
theorem do_halt (w:Wd) (k:Nat) (t:Thr) (a b c:Int) (h:DoR w k t)  :
  ACalls Tryz.prog 147 [.ptr 0 0] (swH w k t ⟨0,a,b,c⟩) (one (.tup []) (swH w k { t with state:=1 } ⟨0,a,b,c⟩)):=by
 have hw2:=pc_out h.pc
 have hw:=pc_in h.pc
 unfold swH swC
 refine jC Tryz.func147 Tryz.ntmps147 (fun w0 β0 ext hβ=>?_)
 repeat (first|refine jS ?_|refine jD ?_|refine jB ?_)
 rw [hw]
 repeat (first|refine jS ?_|refine jD ?_|refine jB ?_)
 rw [hw2]
 repeat (first|refine jS ?_|refine jD ?_|refine jB ?_)
 exact jend [] true rfl rfl rfl ⟨rfl,rfl⟩
theorem do_fence (w:Wd) (k:Nat) (t:Thr) (a b c:Int) (h:DoR w k t)  :
  ACalls Tryz.prog 147 [.ptr 0 0] (swH w k t ⟨18,a,b,c⟩) (one (.tup []) (swH w k (pc1 t) ⟨18,a,b,c⟩)):=by
 have hw:=pc_in h.pc
 unfold swH swC pc1 at *
 refine jC Tryz.func147 Tryz.ntmps147 (fun w0 β0 ext hβ=>?_)
 repeat (first|refine jS ?_|refine jD ?_|refine jB ?_)
 rw [hw]
 repeat (first|refine jS ?_|refine jD ?_|refine jB ?_)
 exact jend [] true rfl rfl rfl ⟨rfl,rfl⟩
theorem do_wait (w:Wd) (k:Nat) (t:Thr) (a b c:Int) (h:DoR w k t)  :
  ACalls Tryz.prog 147 [.ptr 0 0] (swH w k t ⟨23,a,b,c⟩) (one (.tup []) (swH w k (pc1 t) ⟨23,a,b,c⟩)):=by
 have hw:=pc_in h.pc
 unfold swH swC pc1 at *
 refine jC Tryz.func147 Tryz.ntmps147 (fun w0 β0 ext hβ=>?_)
 repeat (first|refine jS ?_|refine jD ?_|refine jB ?_)
 rw [hw]
 repeat (first|refine jS ?_|refine jD ?_|refine jB ?_)
 exact jend [] true rfl rfl rfl ⟨rfl,rfl⟩
theorem do_load_ok (w:Wd) (k:Nat) (t:Thr) (a b c:Int) (h:DoR w k t) (ha:rgs a) (hb:rgs b) (he:(tsLoad w.tso k (IntKind.i64.wrap (rg t b+c))).2=0) :
  ACalls Tryz.prog 147 [.ptr 0 0] (swH w k t ⟨16,a,b,c⟩) (one (.tup []) (swH w k (setR (pc1 t) a (tsLoad w.tso k (IntKind.i64.wrap (rg t b+c))).1) ⟨16,a,b,c⟩)):=by
 have h1:=sload_ok w k (pc1 t) ⟨16,a,b,c⟩ h.tso h.k ha.1 ha.2 hb.1 hb.2 he
 have hw:=pc_in h.pc
 unfold swH swC pc1 at *
 refine jC Tryz.func147 Tryz.ntmps147 (fun w0 β0 ext hβ=>?_)
 repeat (first|refine jS ?_|refine jD ?_|refine jB ?_)
 rw [hw]
 repeat (first|refine jS ?_|refine jD ?_|refine jB ?_)
 refine jBb [0] h1 ?_
 repeat (first|refine jS ?_|refine jD ?_|refine jB ?_)
 exact jend [] true rfl rfl rfl ⟨rfl,rfl⟩
theorem do_load_pan (w:Wd) (k:Nat) (t:Thr) (a b c:Int) (h:DoR w k t) (ha:rgs a) (hb:rgs b) (he:(tsLoad w.tso k (IntKind.i64.wrap (rg t b+c))).2≠0) :
  ACalls Tryz.prog 147 [.ptr 0 0] (swH w k t ⟨16,a,b,c⟩) (onep (fltA (tsLoad w.tso k (IntKind.i64.wrap (rg t b+c))).2) (swH w k (pc1 t) ⟨16,a,b,c⟩)):=by
 have h1:=sload_pan w k (pc1 t) ⟨16,a,b,c⟩ h.tso h.k ha.1 ha.2 hb.1 hb.2 he
 have hw:=pc_in h.pc
 unfold swH swC pc1 at *
 refine jC Tryz.func147 Tryz.ntmps147 (fun w0 β0 ext hβ=>?_)
 repeat (first|refine jS ?_|refine jD ?_|refine jB ?_)
 rw [hw]
 repeat (first|refine jS ?_|refine jD ?_|refine jB ?_)
 refine jbp [0] h1 rfl rfl rfl ⟨rfl,rfl,rfl,rfl,rfl,rfl⟩ rfl rfl rfl ?_
 exact qpan [] true rfl rfl rfl rfl
theorem do_store_ok (w:Wd) (k:Nat) (t:Thr) (a b c:Int) (h:DoR w k t) (ha:rgs a) (hb:rgs b) (he:(tsStore w.tso k (IntKind.i64.wrap (rg t b+c)) (rg t a)).2=0) :
  ACalls Tryz.prog 147 [.ptr 0 0] (swH w k t ⟨17,a,b,c⟩) (one (.tup []) (swH { w with tso:=(tsStore w.tso k (IntKind.i64.wrap (rg t b+c)) (rg t a)).1 } k (pc1 t) ⟨17,a,b,c⟩)):=by
 have h1:=sstore_ok w k (pc1 t) ⟨17,a,b,c⟩ h.tso h.k ha.1 ha.2 hb.1 hb.2 he
 have hw:=pc_in h.pc
 unfold swH swC pc1 at *
 refine jC Tryz.func147 Tryz.ntmps147 (fun w0 β0 ext hβ=>?_)
 repeat (first|refine jS ?_|refine jD ?_|refine jB ?_)
 rw [hw]
 repeat (first|refine jS ?_|refine jD ?_|refine jB ?_)
 refine jBb [0] h1 ?_
 repeat (first|refine jS ?_|refine jD ?_|refine jB ?_)
 exact jend [] true rfl rfl rfl ⟨rfl,rfl⟩
theorem do_store_pan (w:Wd) (k:Nat) (t:Thr) (a b c:Int) (h:DoR w k t) (ha:rgs a) (hb:rgs b) (he:(tsStore w.tso k (IntKind.i64.wrap (rg t b+c)) (rg t a)).2≠0) :
  ACalls Tryz.prog 147 [.ptr 0 0] (swH w k t ⟨17,a,b,c⟩) (onep (fltA (tsStore w.tso k (IntKind.i64.wrap (rg t b+c)) (rg t a)).2) (swH w k (pc1 t) ⟨17,a,b,c⟩)):=by
 have h1:=sstore_pan w k (pc1 t) ⟨17,a,b,c⟩ h.tso h.k ha.1 ha.2 hb.1 hb.2 he
 have hw:=pc_in h.pc
 unfold swH swC pc1 at *
 refine jC Tryz.func147 Tryz.ntmps147 (fun w0 β0 ext hβ=>?_)
 repeat (first|refine jS ?_|refine jD ?_|refine jB ?_)
 rw [hw]
 repeat (first|refine jS ?_|refine jD ?_|refine jB ?_)
 refine jbp [0] h1 rfl rfl rfl ⟨rfl,rfl,rfl,rfl,rfl,rfl⟩ rfl rfl rfl ?_
 exact qpan [] true rfl rfl rfl rfl
theorem do_own_ok (w:Wd) (k:Nat) (t:Thr) (a b c:Int) (h:DoR w k t) (ha:rgs a) (hb:rgs b) (he:(mMark w.tso.mem (rg t a) (rg t b) 1).2=0) :
  ACalls Tryz.prog 147 [.ptr 0 0] (swH w k t ⟨24,a,b,c⟩) (one (.tup []) (swH { w with tso:={ w.tso with mem:=(mMark w.tso.mem (rg t a) (rg t b) 1).1 } } k (pc1 t) ⟨24,a,b,c⟩)):=by
 have h1:=smark_ok w k (pc1 t) ⟨24,a,b,c⟩ 1 h.tso (by decide) ha.1 ha.2 hb.1 hb.2 he
 have hw:=pc_in h.pc
 unfold swH swC pc1 at *
 refine jC Tryz.func147 Tryz.ntmps147 (fun w0 β0 ext hβ=>?_)
 repeat (first|refine jS ?_|refine jD ?_|refine jB ?_)
 rw [hw]
 repeat (first|refine jS ?_|refine jD ?_|refine jB ?_)
 refine jBb [0] h1 ?_
 repeat (first|refine jS ?_|refine jD ?_|refine jB ?_)
 exact jend [] true rfl rfl rfl ⟨rfl,rfl⟩
theorem do_own_pan (w:Wd) (k:Nat) (t:Thr) (a b c:Int) (h:DoR w k t) (ha:rgs a) (hb:rgs b) (he:(mMark w.tso.mem (rg t a) (rg t b) 1).2≠0) :
  ACalls Tryz.prog 147 [.ptr 0 0] (swH w k t ⟨24,a,b,c⟩) (onep (fltA (mMark w.tso.mem (rg t a) (rg t b) 1).2) (swH w k (pc1 t) ⟨24,a,b,c⟩)):=by
 have h1:=smark_pan w k (pc1 t) ⟨24,a,b,c⟩ 1 h.tso (by decide) ha.1 ha.2 hb.1 hb.2 he
 have hw:=pc_in h.pc
 unfold swH swC pc1 at *
 refine jC Tryz.func147 Tryz.ntmps147 (fun w0 β0 ext hβ=>?_)
 repeat (first|refine jS ?_|refine jD ?_|refine jB ?_)
 rw [hw]
 repeat (first|refine jS ?_|refine jD ?_|refine jB ?_)
 refine jbp [0] h1 rfl rfl rfl ⟨rfl,rfl,rfl,rfl,rfl,rfl⟩ rfl rfl rfl ?_
 exact qpan [] true rfl rfl rfl rfl
theorem do_drop_ok (w:Wd) (k:Nat) (t:Thr) (a b c:Int) (h:DoR w k t) (ha:rgs a) (hb:rgs b) (he:(mMark w.tso.mem (rg t a) (rg t b) 2).2=0) :
  ACalls Tryz.prog 147 [.ptr 0 0] (swH w k t ⟨25,a,b,c⟩) (one (.tup []) (swH { w with tso:={ w.tso with mem:=(mMark w.tso.mem (rg t a) (rg t b) 2).1 } } k (pc1 t) ⟨25,a,b,c⟩)):=by
 have h1:=smark_ok w k (pc1 t) ⟨25,a,b,c⟩ 2 h.tso (by decide) ha.1 ha.2 hb.1 hb.2 he
 have hw:=pc_in h.pc
 unfold swH swC pc1 at *
 refine jC Tryz.func147 Tryz.ntmps147 (fun w0 β0 ext hβ=>?_)
 repeat (first|refine jS ?_|refine jD ?_|refine jB ?_)
 rw [hw]
 repeat (first|refine jS ?_|refine jD ?_|refine jB ?_)
 refine jBb [0] h1 ?_
 repeat (first|refine jS ?_|refine jD ?_|refine jB ?_)
 exact jend [] true rfl rfl rfl ⟨rfl,rfl⟩
theorem do_drop_pan (w:Wd) (k:Nat) (t:Thr) (a b c:Int) (h:DoR w k t) (ha:rgs a) (hb:rgs b) (he:(mMark w.tso.mem (rg t a) (rg t b) 2).2≠0) :
  ACalls Tryz.prog 147 [.ptr 0 0] (swH w k t ⟨25,a,b,c⟩) (onep (fltA (mMark w.tso.mem (rg t a) (rg t b) 2).2) (swH w k (pc1 t) ⟨25,a,b,c⟩)):=by
 have h1:=smark_pan w k (pc1 t) ⟨25,a,b,c⟩ 2 h.tso (by decide) ha.1 ha.2 hb.1 hb.2 he
 have hw:=pc_in h.pc
 unfold swH swC pc1 at *
 refine jC Tryz.func147 Tryz.ntmps147 (fun w0 β0 ext hβ=>?_)
 repeat (first|refine jS ?_|refine jD ?_|refine jB ?_)
 rw [hw]
 repeat (first|refine jS ?_|refine jD ?_|refine jB ?_)
 refine jbp [0] h1 rfl rfl rfl ⟨rfl,rfl,rfl,rfl,rfl,rfl⟩ rfl rfl rfl ?_
 exact qpan [] true rfl rfl rfl rfl
theorem do_cas_ok (w:Wd) (k:Nat) (t:Thr) (a b c:Int) (h:DoR w k t) (ha:rgs a) (hb:rgs b) (hc:rgs c) (he:(tsLocked w.tso k 0 (rg t b) (rg t a) (rg t c)).2.2=0) :
  ACalls Tryz.prog 147 [.ptr 0 0] (swH w k t ⟨19,a,b,c⟩) (one (.tup []) (swH { w with tso:=(tsLocked w.tso k 0 (rg t b) (rg t a) (rg t c)).1 } k (setR (pc1 t) a (tsLocked w.tso k 0 (rg t b) (rg t a) (rg t c)).2.1) ⟨19,a,b,c⟩)):=by
 have h1:=slocked_ok w k (pc1 t) ⟨19,a,b,c⟩ 0 (rg t c) h.tso h.k (by decide) ha.1 ha.2 hb.1 hb.2 he
 have hg:=sw_get w k (pc1 t) ⟨19,a,b,c⟩ hc.1 hc.2
 rw [show rg (pc1 t) c=rg t c from rfl] at hg
 have hw:=pc_in h.pc
 unfold swH swC pc1 at *
 refine jC Tryz.func147 Tryz.ntmps147 (fun w0 β0 ext hβ=>?_)
 repeat (first|refine jS ?_|refine jB ?_)
 rw [hw]
 repeat (first|refine jS ?_|refine jB ?_)
 refine jdrawPT [(0,.p),(1,.p),(2,.p),(3,.p),(4,.p),(5,.p),(6,.r),(7,.p),(8,.p),(9,.p),(10,.p),(11,.r),(12,.m)] rfl (by kernel_rfl) ?_
 repeat (first|refine jS ?_|refine jD ?_|refine jB ?_|refine jo rfl rfl (index_arr rfl rfl rfl rfl rfl hc.1 hc.2) rfl rfl ?_|refine jo rfl rfl (load_dsem (r:=ty3) rfl rfl rfl hg) rfl rfl ?_)
 refine jBb [0] h1 ?_
 repeat (first|refine jS ?_|refine jD ?_|refine jB ?_)
 exact jend [] true rfl rfl rfl ⟨rfl,rfl⟩
theorem do_cas_pan (w:Wd) (k:Nat) (t:Thr) (a b c:Int) (h:DoR w k t) (ha:rgs a) (hb:rgs b) (hc:rgs c) (he:(tsLocked w.tso k 0 (rg t b) (rg t a) (rg t c)).2.2≠0) :
  ACalls Tryz.prog 147 [.ptr 0 0] (swH w k t ⟨19,a,b,c⟩) (onep (fltA (tsLocked w.tso k 0 (rg t b) (rg t a) (rg t c)).2.2) (swH w k (pc1 t) ⟨19,a,b,c⟩)):=by
 have h1:=slocked_pan w k (pc1 t) ⟨19,a,b,c⟩ 0 (rg t c) h.tso h.k (by decide) ha.1 ha.2 hb.1 hb.2 he
 have hg:=sw_get w k (pc1 t) ⟨19,a,b,c⟩ hc.1 hc.2
 rw [show rg (pc1 t) c=rg t c from rfl] at hg
 have hw:=pc_in h.pc
 unfold swH swC pc1 at *
 refine jC Tryz.func147 Tryz.ntmps147 (fun w0 β0 ext hβ=>?_)
 repeat (first|refine jS ?_|refine jB ?_)
 rw [hw]
 repeat (first|refine jS ?_|refine jB ?_)
 refine jdrawE [(0,.p),(1,.p),(2,.p),(3,.p),(4,.p),(5,.p),(6,.r),(7,.p),(8,.p),(9,.p),(10,.p),(11,.r)] rfl rfl (by kernel_rfl) (by kernel_rfl) ?_
 repeat (first|refine jS ?_|refine jD ?_|refine jB ?_|refine jo rfl rfl (index_arr rfl rfl rfl rfl rfl hc.1 hc.2) rfl rfl ?_|refine jo rfl rfl (load_dsem (r:=ty3) rfl rfl rfl hg) rfl rfl ?_)
 refine jonly ?_
 refine jbp [0] h1 rfl rfl rfl ⟨rfl,rfl,rfl,rfl,rfl,rfl⟩ rfl rfl rfl ?_
 exact qpan [] true rfl rfl rfl rfl
theorem do_xchg_ok (w:Wd) (k:Nat) (t:Thr) (a b c:Int) (h:DoR w k t) (ha:rgs a) (hb:rgs b) (he:(tsLocked w.tso k 1 (rg t b) (rg t a) 0).2.2=0) :
  ACalls Tryz.prog 147 [.ptr 0 0] (swH w k t ⟨20,a,b,c⟩) (one (.tup []) (swH { w with tso:=(tsLocked w.tso k 1 (rg t b) (rg t a) 0).1 } k (setR (pc1 t) a (tsLocked w.tso k 1 (rg t b) (rg t a) 0).2.1) ⟨20,a,b,c⟩)):=by
 have h1:=slocked_ok w k (pc1 t) ⟨20,a,b,c⟩ 1 0 h.tso h.k (by decide) ha.1 ha.2 hb.1 hb.2 he
 have hw:=pc_in h.pc
 unfold swH swC pc1 at *
 refine jC Tryz.func147 Tryz.ntmps147 (fun w0 β0 ext hβ=>?_)
 repeat (first|refine jS ?_|refine jD ?_|refine jB ?_)
 rw [hw]
 repeat (first|refine jS ?_|refine jD ?_|refine jB ?_)
 refine jBb [0] h1 ?_
 repeat (first|refine jS ?_|refine jD ?_|refine jB ?_)
 exact jend [] true rfl rfl rfl ⟨rfl,rfl⟩
theorem do_xchg_pan (w:Wd) (k:Nat) (t:Thr) (a b c:Int) (h:DoR w k t) (ha:rgs a) (hb:rgs b) (he:(tsLocked w.tso k 1 (rg t b) (rg t a) 0).2.2≠0) :
  ACalls Tryz.prog 147 [.ptr 0 0] (swH w k t ⟨20,a,b,c⟩) (onep (fltA (tsLocked w.tso k 1 (rg t b) (rg t a) 0).2.2) (swH w k (pc1 t) ⟨20,a,b,c⟩)):=by
 have h1:=slocked_pan w k (pc1 t) ⟨20,a,b,c⟩ 1 0 h.tso h.k (by decide) ha.1 ha.2 hb.1 hb.2 he
 have hw:=pc_in h.pc
 unfold swH swC pc1 at *
 refine jC Tryz.func147 Tryz.ntmps147 (fun w0 β0 ext hβ=>?_)
 repeat (first|refine jS ?_|refine jD ?_|refine jB ?_)
 rw [hw]
 repeat (first|refine jS ?_|refine jD ?_|refine jB ?_)
 refine jbp [0] h1 rfl rfl rfl ⟨rfl,rfl,rfl,rfl,rfl,rfl⟩ rfl rfl rfl ?_
 exact qpan [] true rfl rfl rfl rfl
theorem do_fetch_ok (w:Wd) (k:Nat) (t:Thr) (a b c:Int) (h:DoR w k t) (ha:rgs a) (hb:rgs b) (he:(tsLocked w.tso k 2 (rg t b) (rg t a) 0).2.2=0) :
  ACalls Tryz.prog 147 [.ptr 0 0] (swH w k t ⟨21,a,b,c⟩) (one (.tup []) (swH { w with tso:=(tsLocked w.tso k 2 (rg t b) (rg t a) 0).1 } k (setR (pc1 t) a (tsLocked w.tso k 2 (rg t b) (rg t a) 0).2.1) ⟨21,a,b,c⟩)):=by
 have h1:=slocked_ok w k (pc1 t) ⟨21,a,b,c⟩ 2 0 h.tso h.k (by decide) ha.1 ha.2 hb.1 hb.2 he
 have hw:=pc_in h.pc
 unfold swH swC pc1 at *
 refine jC Tryz.func147 Tryz.ntmps147 (fun w0 β0 ext hβ=>?_)
 repeat (first|refine jS ?_|refine jD ?_|refine jB ?_)
 rw [hw]
 repeat (first|refine jS ?_|refine jD ?_|refine jB ?_)
 refine jBb [0] h1 ?_
 repeat (first|refine jS ?_|refine jD ?_|refine jB ?_)
 exact jend [] true rfl rfl rfl ⟨rfl,rfl⟩
theorem do_fetch_pan (w:Wd) (k:Nat) (t:Thr) (a b c:Int) (h:DoR w k t) (ha:rgs a) (hb:rgs b) (he:(tsLocked w.tso k 2 (rg t b) (rg t a) 0).2.2≠0) :
  ACalls Tryz.prog 147 [.ptr 0 0] (swH w k t ⟨21,a,b,c⟩) (onep (fltA (tsLocked w.tso k 2 (rg t b) (rg t a) 0).2.2) (swH w k (pc1 t) ⟨21,a,b,c⟩)):=by
 have h1:=slocked_pan w k (pc1 t) ⟨21,a,b,c⟩ 2 0 h.tso h.k (by decide) ha.1 ha.2 hb.1 hb.2 he
 have hw:=pc_in h.pc
 unfold swH swC pc1 at *
 refine jC Tryz.func147 Tryz.ntmps147 (fun w0 β0 ext hβ=>?_)
 repeat (first|refine jS ?_|refine jD ?_|refine jB ?_)
 rw [hw]
 repeat (first|refine jS ?_|refine jD ?_|refine jB ?_)
 refine jbp [0] h1 rfl rfl rfl ⟨rfl,rfl,rfl,rfl,rfl,rfl⟩ rfl rfl rfl ?_
 exact qpan [] true rfl rfl rfl rfl
theorem sub_one (t:Thr) (x:List Int):({ pc1 t with pc:=(pc1 t).pc-1,left:=x }:Thr) = { t with left:=x }:=by
 unfold pc1;simp
theorem do_broad_some (w:Wd) (k:Nat) (t:Thr) (a b c:Int) (h:DoR w k t) (hl:0 < t.left.length) :
  ACalls Tryz.prog 147 [.ptr 0 0] (swH w k t ⟨22,a,b,c⟩) (one (.tup []) (swH w k { pc1 t with left:=[] } ⟨22,a,b,c⟩)):=by
 have h1:=sbroad_some w k (pc1 t) ⟨22,a,b,c⟩ hl
 have hw:=pc_in h.pc
 unfold swH swC pc1 at *
 refine jC Tryz.func147 Tryz.ntmps147 (fun w0 β0 ext hβ=>?_)
 repeat (first|refine jS ?_|refine jD ?_|refine jB ?_)
 rw [hw]
 repeat (first|refine jS ?_|refine jD ?_|refine jB ?_)
 refine jBb [0] h1 ?_
 repeat (first|refine jS ?_|refine jD ?_|refine jB ?_)
 exact jend [] true rfl rfl rfl ⟨rfl,rfl⟩
theorem do_broad_none (w:Wd) (k:Nat) (t:Thr) (a b c:Int) (h:DoR w k t) (hl:t.left=[]) :
  ACalls Tryz.prog 147 [.ptr 0 0] (swH w k t ⟨22,a,b,c⟩) (one (.tup []) (swH w k { t with left:=lens w.tso.bufs } ⟨22,a,b,c⟩)):=by
 have h1:=sbroad_none w k (pc1 t) ⟨22,a,b,c⟩ hl (by have:=h.pc;show 1≤t.pc+1;omega) (by have:=h.pc;show t.pc+1≤1001;omega) h.tso.sz.1.1 h.tso.sz.1.2
 have hb:=sub_one t (lens w.tso.bufs)
 rw [hb] at h1
 have hw:=pc_in h.pc
 unfold swH swC pc1 at *
 refine jC Tryz.func147 Tryz.ntmps147 (fun w0 β0 ext hβ=>?_)
 repeat (first|refine jS ?_|refine jD ?_|refine jB ?_)
 rw [hw]
 repeat (first|refine jS ?_|refine jD ?_|refine jB ?_)
 refine jBb [0] h1 ?_
 repeat (first|refine jS ?_|refine jD ?_|refine jB ?_)
 exact jend [] true rfl rfl rfl ⟨rfl,rfl⟩
theorem do_mark (w:Wd) (k:Nat) (t:Thr) (a b c:Int) (h:DoR w k t) (he:w.evs.length≤1000000) :
  ACalls Tryz.prog 147 [.ptr 0 0] (swH w k t ⟨26,a,b,c⟩) (one (.tup []) (swH { w with evs:=w.evs++[(⟨a,k,[g0 t.regs 0,g0 t.regs 1,g0 t.regs 2,g0 t.regs 3]⟩:Evt)] } k (pc1 t) ⟨26,a,b,c⟩)):=by
 have hcl:=clip_evt w.evs
 have hev:w.evs.map encEvt++[encEvt (⟨a,k,[g0 t.regs 0,g0 t.regs 1,g0 t.regs 2,g0 t.regs 3]⟩:Evt)]=(w.evs++[(⟨a,k,[g0 t.regs 0,g0 t.regs 1,g0 t.regs 2,g0 t.regs 3]⟩:Evt)]).map encEvt:=by rw [List.map_append];rfl
 have hel:∀ l:List Evt,ElemsOk 6 (l.map encEvt):=fun l y hy=>by
  obtain ⟨a,_,rfl⟩:=List.mem_map.1 hy
  exact ⟨rfl,rfl⟩
 have hw:=pc_in h.pc
 unfold swH swC pc1 at *
 refine jC Tryz.func147 Tryz.ntmps147 (fun w0 β0 ext hβ=>?_)
 repeat (first|refine jS ?_|refine jD ?_|refine jB ?_)
 rw [hw]
 repeat (first|refine jS ?_|refine jD ?_|refine jB ?_|refine jV hcl ?_|refine jo rfl rfl (slice_box 0 4 rfl rfl ⟨_,rfl⟩ rfl rfl rfl (by decide) (by decide) (by decide)) rfl rfl ?_|refine jo rfl rfl (arr_at rfl rfl rfl (by decide)) rfl rfl ?_)
 refine jo rfl rfl (append_new (ys:=[encEvt (⟨a,k,[g0 t.regs 0,g0 t.regs 1,g0 t.regs 2,g0 t.regs 3]⟩:Evt)]) rfl rfl (.sl rfl) rfl rfl rfl rfl rfl (hel _) (hel [(⟨a,k,[g0 t.regs 0,g0 t.regs 1,g0 t.regs 2,g0 t.regs 3]⟩:Evt)]) rfl (by simp) (by simp [ty49];omega) (by simp;omega)) rfl rfl ?_
 rw [hev]
 repeat (first|refine jS ?_|refine jD ?_|refine jB ?_)
 exact jend [] true rfl rfl rfl ⟨rfl,rfl⟩
theorem do_end (w:Wd) (k:Nat) (t:Thr) (a b c:Int) (h:DoR w k t)  :
  ACalls Tryz.prog 147 [.ptr 0 0] (swH w k t ⟨27,a,b,c⟩) (onep (fltA 3) (swH w k (pc1 t) ⟨27,a,b,c⟩)):=by
 have h1:=must_pan 3 (by decide)
 have hw:=pc_in h.pc
 unfold swH swC pc1 at *
 refine jC Tryz.func147 Tryz.ntmps147 (fun w0 β0 ext hβ=>?_)
 repeat (first|refine jS ?_|refine jD ?_|refine jB ?_)
 rw [hw]
 repeat (first|refine jS ?_|refine jD ?_|refine jB ?_)
 refine jbp [] h1 rfl rfl rfl ⟨rfl,rfl,rfl,rfl,rfl,rfl⟩ rfl rfl rfl ?_
 exact qpan [] true rfl rfl rfl rfl
theorem do_lo_ok (w:Wd) (k:Nat) (t:Thr) (i:Ins) (h:DoR w k t) (h1:1≤i.op) (h15:i.op≤15) (he:(loApply k i t).2=0) :
  ACalls Tryz.prog 147 [.ptr 0 0] (swH w k t i) (one (.tup []) (swH w k (loApply k i t).1 i)):=by
 have ha:=apply_ok t k i (by have:=h.frames;omega) (by have:=h.left;omega)
 have d1:decide (i.op≥1)=true:=decide_eq_true h1
 have d2:decide (i.op≤15)=true:=decide_eq_true h15
 generalize loApply k i t=p at *
 obtain ⟨p1,e⟩:=p
 simp only at he
 subst he
 have hm:=must_ok
 rw [show resThr (p1,0)=encThr p1 from rfl] at ha
 unfold encIns encThr thCells at ha
 unfold swH swC
 simp only at ha ⊢
 refine jC Tryz.func147 Tryz.ntmps147 (fun w0 β0 ext hβ=>?_)
 repeat (first|refine jS ?_|refine jD ?_|refine jB ?_)
 rw [d1]
 repeat (first|refine jS ?_|refine jD ?_|refine jB ?_)
 rw [d2]
 repeat (first|refine jS ?_|refine jD ?_|refine jB ?_|refine jV ha ?_|refine jV hm ?_)
 exact jR
theorem do_lo_pan (w:Wd) (k:Nat) (t:Thr) (i:Ins) (h:DoR w k t) (h1:1≤i.op) (h15:i.op≤15) (he:(loApply k i t).2≠0) :
  ACalls Tryz.prog 147 [.ptr 0 0] (swH w k t i) (onep (fltA (loApply k i t).2) (swH w k t i)):=by
 have ha:=apply_ok t k i (by have:=h.frames;omega) (by have:=h.left;omega)
 have d1:decide (i.op≥1)=true:=decide_eq_true h1
 have d2:decide (i.op≤15)=true:=decide_eq_true h15
 generalize loApply k i t=p at *
 obtain ⟨p1,e⟩:=p
 simp only at he
 have hm:=must_pan e he
 rw [show resThr (p1,e)=thrE0 by unfold resThr;rw [decide_eq_false he];rfl] at ha
 unfold encIns thrE0 encThr thCells at ha
 unfold swH swC
 simp only at ha ⊢
 refine jC Tryz.func147 Tryz.ntmps147 (fun w0 β0 ext hβ=>?_)
 repeat (first|refine jS ?_|refine jD ?_|refine jB ?_)
 rw [d1]
 repeat (first|refine jS ?_|refine jD ?_|refine jB ?_)
 rw [d2]
 repeat (first|refine jS ?_|refine jD ?_|refine jB ?_|refine jV ha ?_)
 refine jbp [] hm rfl rfl rfl ⟨rfl,rfl,rfl,rfl,rfl,rfl⟩ rfl rfl rfl ?_
 exact qpan [] true rfl rfl rfl rfl
end Go.AL
end
section
set_option maxRecDepth 100000
namespace Go.AL
open Go Go.Proofs
attribute [local irreducible] J
structure InsR (i:Ins):Prop where
 op:0≤i.op∧i.op≤27
 ab:i.op=16∨i.op=17∨i.op=19∨i.op=20∨i.op=21∨i.op=23∨i.op=24∨i.op=25→rgs i.a∧rgs i.b
 c:i.op=19→rgs i.c
theorem rgs_of {v:Int} (h:inn v 0 7=true):rgs v:=by have:=inn_iff.1 h;exact ⟨by omega,by omega⟩
theorem may_ab {n:Nat} {op a b c:Int} (h:mayI n ⟨op,a,b,c⟩=true) (ho:op=16∨op=17∨op=19∨op=20∨op=21∨op=23∨op=24∨op=25):rgs a∧rgs b:=by
 have key:∀ {x:Bool} {y z:Bool},(x&&(inn a 0 7&&(inn b 0 7&&y)))=true→rgs a∧rgs b:=fun {x y z} h=>by
  simp only [Bool.and_eq_true] at h
  exact ⟨rgs_of h.2.1,rgs_of h.2.2.1⟩
 rcases ho with rfl|rfl|rfl|rfl|rfl|rfl|rfl|rfl<;>exact key (z:=true) h
theorem may_c {n:Nat} {a b c:Int} (h:mayI n ⟨19,a,b,c⟩=true):rgs c:=by
 have key:∀ {x y z:Bool},(x&&(y&&(z&&inn c 0 7)))=true→rgs c:=fun {x y z} h=>by
  simp only [Bool.and_eq_true] at h
  exact rgs_of h.2.2.2
 exact key h
theorem insR_may {n:Nat} {i:Ins} (h:mayI n i=true):InsR i:=by
 obtain ⟨op,a,b,c⟩:=i
 have h0:inn op 0 26=true:=by
  unfold mayI at h
  simp only [Bool.and_eq_true] at h
  exact h.1
 have h0:=inn_iff.1 h0
 refine ⟨⟨h0.1,by show op≤27;omega⟩,fun ho=>may_ab h ho,fun ho=>?_⟩
 have ho:op=19:=ho
 subst ho
 exact may_c h
theorem insR_end:InsR ⟨27,0,0,0⟩:=⟨by decide,fun h=>by simp at h,fun h=>by simp at h⟩
theorem insR_at {w:Wd} {t:Thr} (h:WdR w) (hp:0≤t.pc):InsR (instrAt w t):=by
 unfold instrAt
 cases hb:decide (t.pc < (w.code.length:Int)) with
 | false=>exact insR_end
 | true =>
  have hb:=of_decide_eq_true hb
  have hc:=h.code
  unfold rightC at hc
  rw [Bool.and_eq_true,List.all_eq_true] at hc
  have hlt:t.pc.toNat < w.code.length:=by omega
  have:w.code.getD t.pc.toNat default=w.code[t.pc.toNat]:=by simp [List.getD,hlt]
  rw [cond_true,this]
  exact insR_may (hc.2 _ (List.getElem_mem hlt))
theorem doN_lo (w:Wd) (k:Nat) (t:Thr) {op:Int} (a b c:Int) (h1:1≤op) (h15:op≤15):doN w k t ⟨op,a,b,c⟩=(w,(loApply k ⟨op,a,b,c⟩ t).1,(loApply k ⟨op,a,b,c⟩ t).2):=by
 rcases inn15 (inn_iff.2 ⟨h1,h15⟩) with rfl|rfl|rfl|rfl|rfl|rfl|rfl|rfl|rfl|rfl|rfl|rfl|rfl|rfl|rfl<;>rfl
theorem sdo_ok (w:Wd) (k:Nat) (t:Thr) (i:Ins) (h:DoR w k t) (hi:InsR i) (hev:w.evs.length≤1000000) (he:(doN w k t i).2.2=0) :
  ACalls Tryz.prog 147 [.ptr 0 0] (swH w k t i) (one (.tup []) (swH (doN w k t i).1 k (doN w k t i).2.1 i)):=by
 obtain ⟨op,a,b,c⟩:=i
 obtain ⟨⟨o0,o1⟩,hab,hc⟩:=hi
 simp only at o0 o1 hab hc
 rcases (by omega:op=0∨(1≤op∧op≤15)∨op=16∨op=17∨op=18∨op=19∨op=20∨op=21∨op=22∨op=23∨op=24∨op=25∨op=26∨op=27) with rfl|ho|rfl|rfl|rfl|rfl|rfl|rfl|rfl|rfl|rfl|rfl|rfl|rfl
 ·exact do_halt w k t a b c h
 ·have e:=doN_lo w k t a b c ho.1 ho.2
  rw [e] at he ⊢
  exact do_lo_ok w k t _ h ho.1 ho.2 he
 ·exact do_load_ok w k t a b c h (hab (by decide)).1 (hab (by decide)).2 he
 ·exact do_store_ok w k t a b c h (hab (by decide)).1 (hab (by decide)).2 he
 ·exact do_fence w k t a b c h
 ·exact do_cas_ok w k t a b c h (hab (by decide)).1 (hab (by decide)).2 (hc (by decide)) he
 ·exact do_xchg_ok w k t a b c h (hab (by decide)).1 (hab (by decide)).2 he
 ·exact do_fetch_ok w k t a b c h (hab (by decide)).1 (hab (by decide)).2 he
 ·have e:doN w k t ⟨22,a,b,c⟩=cond (decide (0 < t.left.length)) (w,{ pc1 t with left:=[] },0) (w,{ t with left:=lens w.tso.bufs },0):=rfl
  rw [e]
  cases hl:decide (0 < t.left.length) with
  | true=>exact do_broad_some w k t a b c h (of_decide_eq_true hl)
  | false=>exact do_broad_none w k t a b c h (List.length_eq_zero_iff.1 (by have:=of_decide_eq_false hl;omega))
 ·exact do_wait w k t a b c h
 ·exact do_own_ok w k t a b c h (hab (by decide)).1 (hab (by decide)).2 he
 ·exact do_drop_ok w k t a b c h (hab (by decide)).1 (hab (by decide)).2 he
 ·exact do_mark w k t a b c h hev
 ·exact absurd (show (3:Int)=0 from he) (by decide)
theorem sdo_pan (w:Wd) (k:Nat) (t:Thr) (i:Ins) (h:DoR w k t) (hi:InsR i) (he:(doN w k t i).2.2≠0) :
  ∃ t',ACalls Tryz.prog 147 [.ptr 0 0] (swH w k t i) (onep (fltA (doN w k t i).2.2) (swH w k t' i)):=by
 obtain ⟨op,a,b,c⟩:=i
 obtain ⟨⟨o0,o1⟩,hab,hc⟩:=hi
 simp only at o0 o1 hab hc
 rcases (by omega:op=0∨(1≤op∧op≤15)∨op=16∨op=17∨op=18∨op=19∨op=20∨op=21∨op=22∨op=23∨op=24∨op=25∨op=26∨op=27) with rfl|ho|rfl|rfl|rfl|rfl|rfl|rfl|rfl|rfl|rfl|rfl|rfl|rfl
 ·exact absurd rfl he
 ·have e:=doN_lo w k t a b c ho.1 ho.2
  rw [e] at he ⊢
  exact ⟨_,do_lo_pan w k t _ h ho.1 ho.2 he⟩
 ·exact ⟨_,do_load_pan w k t a b c h (hab (by decide)).1 (hab (by decide)).2 he⟩
 ·exact ⟨_,do_store_pan w k t a b c h (hab (by decide)).1 (hab (by decide)).2 he⟩
 ·exact absurd rfl he
 ·exact ⟨_,do_cas_pan w k t a b c h (hab (by decide)).1 (hab (by decide)).2 (hc (by decide)) he⟩
 ·exact ⟨_,do_xchg_pan w k t a b c h (hab (by decide)).1 (hab (by decide)).2 he⟩
 ·exact ⟨_,do_fetch_pan w k t a b c h (hab (by decide)).1 (hab (by decide)).2 he⟩
 ·exfalso
  have e:doN w k t ⟨22,a,b,c⟩=cond (decide (0 < t.left.length)) (w,{ pc1 t with left:=[] },0) (w,{ t with left:=lens w.tso.bufs },0):=rfl
  rw [e] at he
  cases hl:decide (0 < t.left.length)<;>rw [hl] at he<;>exact he rfl
 ·exact absurd rfl he
 ·exact ⟨_,do_own_pan w k t a b c h (hab (by decide)).1 (hab (by decide)).2 he⟩
 ·exact ⟨_,do_drop_pan w k t a b c h (hab (by decide)).1 (hab (by decide)).2 he⟩
 ·exact absurd rfl he
 ·exact ⟨_,do_end w k t a b c h⟩
def fltT (t:Thr) (e:Int):Thr:={ t with state:=2,fault:=e }
def tryH (a b:List AVal):List AObj:=[.box 233 a,.box 228 [.ptr 0 0],.box 233 b]
theorem clo_none (w w1:Wd) (k:Int) (t t1:Thr) (i:Ins):ADCalls Tryz.prog 188 [.ptr 2 0,.ptr 1 0] (tryH (swC w1 k t1 i) (swC w k t i)) none (tryH (swC w1 k t1 i) (swC w k t i)):=by
 unfold tryH swC
 refine adcalls_intro Tryz.func188 rfl (by kernel_rfl) Tryz.ntmps188 rfl rfl rfl rfl (fun w0 β0 ext hβ=>?_)
 unfold rvOf
 repeat (first|refine jS ?_|refine jD ?_|refine jB ?_|refine jo rfl rfl (ne_nilI rfl rfl rfl) rfl rfl ?_)
 exact jend [] false rfl rfl rfl ⟨rfl,rfl⟩
theorem clo_pan (w w1:Wd) (k:Nat) (t t1:Thr) (i:Ins) (e:Int) (hk:k < w.thr.length) (hl:w.thr.length≤8) :
  ADCalls Tryz.prog 188 [.ptr 2 0,.ptr 1 0] (tryH (swC w1 k t1 i) (swC w k t i)) (some (fltA e)) (tryH (swC (setT w k (fltT t e)) k (fltT t e) i) (swC w k t i)):=by
 have hp:=put_ok w k (fltT t e) i hk hl
 unfold swH at hp
 unfold tryH
 unfold swC fltT setT at *
 simp only at *
 refine adcalls_intro Tryz.func188 rfl (by kernel_rfl) Tryz.ntmps188 rfl rfl rfl rfl (fun w0 β0 ext hβ=>?_)
 have hns:∀ ms,ty279.d ≠ .interface ms:=by intro ms h;cases h
 unfold rvOf fltA
 simp only
 repeat (first|refine jS ?_|refine jB ?_|refine jo rfl rfl (ne_ifc rfl rfl rfl) rfl rfl ?_|refine jo rfl rfl (ta_ok rfl rfl hns) rfl rfl ?_)
 refine jmid [1] [.ptr 1 0] (tryH (swC w k (fltT t e) i) (swC w k t i)++[.box 279 [iv e]]) ?_ ?_
 ·refine jorders (Ls:=[[0,1,2,3,4,5,6,7,8,9,10,11],[0,1,2,4,3,5,6,7,8,9,10,11],[0,1,2,4,5,3,6,7,8,9,10,11],[0,1,2,4,5,6,3,7,8,9,10,11],[0,1,2,4,5,6,7,3,8,9,10,11],[0,1,4,2,3,5,6,7,8,9,10,11],[0,1,4,2,5,3,6,7,8,9,10,11],[0,1,4,2,5,6,3,7,8,9,10,11],[0,1,4,2,5,6,7,3,8,9,10,11],[0,1,4,5,2,3,6,7,8,9,10,11],[0,1,4,5,2,6,3,7,8,9,10,11],[0,1,4,5,2,6,7,3,8,9,10,11],[0,1,4,5,6,2,3,7,8,9,10,11],[0,1,4,5,6,2,7,3,8,9,10,11],[0,1,4,5,6,7,2,3,8,9,10,11],[0,2,1,3,4,5,6,7,8,9,10,11],[0,2,1,4,3,5,6,7,8,9,10,11],[0,2,1,4,5,3,6,7,8,9,10,11],[0,2,1,4,5,6,3,7,8,9,10,11],[0,2,1,4,5,6,7,3,8,9,10,11],[0,2,3,1,4,5,6,7,8,9,10,11],[1,0,2,3,4,5,6,7,8,9,10,11],[1,0,2,4,3,5,6,7,8,9,10,11],[1,0,2,4,5,3,6,7,8,9,10,11],[1,0,2,4,5,6,3,7,8,9,10,11],[1,0,2,4,5,6,7,3,8,9,10,11],[1,0,4,2,3,5,6,7,8,9,10,11],[1,0,4,2,5,3,6,7,8,9,10,11],[1,0,4,2,5,6,3,7,8,9,10,11],[1,0,4,2,5,6,7,3,8,9,10,11],[1,0,4,5,2,3,6,7,8,9,10,11],[1,0,4,5,2,6,3,7,8,9,10,11],[1,0,4,5,2,6,7,3,8,9,10,11],[1,0,4,5,6,2,3,7,8,9,10,11],[1,0,4,5,6,2,7,3,8,9,10,11],[1,0,4,5,6,7,2,3,8,9,10,11],[1,2,0,3,4,5,6,7,8,9,10,11],[1,2,0,4,3,5,6,7,8,9,10,11],[1,2,0,4,5,3,6,7,8,9,10,11],[1,2,0,4,5,6,3,7,8,9,10,11],[1,2,0,4,5,6,7,3,8,9,10,11],[1,2,3,0,4,5,6,7,8,9,10,11],[2,0,1,3,4,5,6,7,8,9,10,11],[2,0,1,4,3,5,6,7,8,9,10,11],[2,0,1,4,5,3,6,7,8,9,10,11],[2,0,1,4,5,6,3,7,8,9,10,11],[2,0,1,4,5,6,7,3,8,9,10,11],[2,0,3,1,4,5,6,7,8,9,10,11],[2,1,0,3,4,5,6,7,8,9,10,11],[2,1,0,4,3,5,6,7,8,9,10,11],[2,1,0,4,5,3,6,7,8,9,10,11],[2,1,0,4,5,6,3,7,8,9,10,11],[2,1,0,4,5,6,7,3,8,9,10,11],[2,1,3,0,4,5,6,7,8,9,10,11],[2,3,0,1,4,5,6,7,8,9,10,11],[2,3,1,0,4,5,6,7,8,9,10,11]]) (by kernel_rfl) ?_
  repeat' (first|exact List.forall_mem_nil _|refine List.forall_mem_cons.2 ⟨?_,?_⟩)
  all_goals (
   repeat (first|refine jS ?_|refine jD ?_|refine jB ?_)
  )
  all_goals exact jmeet rfl rfl
 ·unfold tryH swC fltT
  repeat (first|refine jS ?_|refine jD ?_|refine jB ?_)
  refine jBb [0] hp ?_
  repeat (first|refine jS ?_|refine jD ?_|refine jB ?_)
  exact jend [] false rfl rfl rfl ⟨rfl,rfl⟩
theorem try_ok (w w1:Wd) (k:Nat) (t t1:Thr) (i:Ins) (hk:k < w1.thr.length) (hl:w1.thr.length≤8)
  (hd:ACalls Tryz.prog 147 [.ptr 0 0] (swH w k t i) (one (.tup []) (swH w1 k t1 i))) :
  ACalls Tryz.prog 146 [.ptr 0 0,.fn (.func 147) [.ptr 0 0] []] (swH w k t i) (one (.tup []) (swH (setT w1 k t1) k t1 i)):=by
 have hp:=put_ok w1 k t1 i hk hl
 have hcl:=clo_none w (setT w1 k t1) k t t1 i
 unfold tryH at hcl
 unfold swH at *
 generalize hc0:swC w k t i=c0 at *
 generalize hc1:swC w1 k t1 i=c1 at *
 generalize hc2:swC (setT w1 k t1) k t1 i=c2 at *
 unfold swC at hc0 hc1 hc2
 subst hc0 hc1 hc2
 refine acalls_try Tryz.func146 rfl (by kernel_rfl) Tryz.ntmps146 rfl rfl (fun w0 β0 ext hβ=>?_)
 repeat (first|refine jS ?_|refine jD ?_|refine jB ?_)
 refine jonly ?_
 repeat (first|refine jS ?_|refine jD ?_|refine jB ?_)
 refine jonly ?_
 repeat (first|refine jS ?_|refine jD ?_|refine jB ?_)
 refine jonly ⟨188,[],[.ptr 2 0,.ptr 1 0],rfl,⟨_,Tryz.func188,by kernel_rfl,by kernel_rfl⟩,fun w2 β2 d=>?_⟩
 repeat (first|refine jS ?_|refine jD ?_|refine jB ?_)
 refine jBb [0] hd ?_
 repeat (first|refine jS ?_|refine jD ?_|refine jB ?_)
 refine jBb [0] hp ?_
 repeat (first|refine jS ?_|refine jD ?_|refine jB ?_)
 exact jat ⟨_,_,[],true,hcl,rfl,rfl,rfl,rfl⟩
end Go.AL
end
section
set_option maxRecDepth 100000
namespace Go.AL
open Go Go.Proofs
attribute [local irreducible] J
theorem try_pan (w w1:Wd) (k:Nat) (t t1:Thr) (i:Ins) (e:Int) (hk:k < w.thr.length) (hl:w.thr.length≤8)
  (hd:ACalls Tryz.prog 147 [.ptr 0 0] (swH w k t i) (onep (fltA e) (swH w1 k t1 i))) :
  ACalls Tryz.prog 146 [.ptr 0 0,.fn (.func 147) [.ptr 0 0] []] (swH w k t i) (one (.tup []) (swH (setT w k (fltT t e)) k (fltT t e) i)):=by
 have hcl:=clo_pan w w1 k t t1 i e hk hl
 unfold tryH at hcl
 unfold swH at *
 generalize hc0:swC w k t i=c0 at *
 generalize hc1:swC w1 k t1 i=c1 at *
 generalize hc2:swC (setT w k (fltT t e)) k (fltT t e) i=c2 at *
 unfold swC at hc0 hc1 hc2
 subst hc0 hc1 hc2
 refine acalls_try Tryz.func146 rfl (by kernel_rfl) Tryz.ntmps146 rfl rfl (fun w0 β0 ext hβ=>?_)
 repeat (first|refine jS ?_|refine jD ?_|refine jB ?_)
 refine jonly ?_
 repeat (first|refine jS ?_|refine jD ?_|refine jB ?_)
 refine jonly ?_
 repeat (first|refine jS ?_|refine jD ?_|refine jB ?_)
 refine jonly ⟨188,[],[.ptr 2 0,.ptr 1 0],rfl,⟨_,Tryz.func188,by kernel_rfl,by kernel_rfl⟩,fun w2 β2 d=>?_⟩
 repeat (first|refine jS ?_|refine jD ?_|refine jB ?_)
 refine jbp [0] hd rfl rfl rfl ⟨rfl,rfl,rfl,rfl,rfl,rfl⟩ rfl rfl rfl ?_
 exact ⟨_,_,[],true,hcl,rfl,rfl,rfl,rfl⟩
def tryH4 (a b:List AVal) (e:Int):List AObj:=[.box 233 a,.box 34 [iv e],.box 228 [.ptr 0 0],.box 233 b]
theorem clo_pan4 (w w1:Wd) (k:Nat) (t t1:Thr) (i:Ins) (e:Int) (hk:k < w.thr.length) (hl:w.thr.length≤8) :
  ADCalls Tryz.prog 188 [.ptr 3 0,.ptr 2 0] (tryH4 (swC w1 k t1 i) (swC w k t i) e) (some (fltA e)) (tryH4 (swC (setT w k (fltT t e)) k (fltT t e) i) (swC w k t i) e):=by
 have hp:=put_ok w k (fltT t e) i hk hl
 unfold swH at hp
 unfold tryH4
 unfold swC fltT setT at *
 simp only at *
 refine adcalls_intro Tryz.func188 rfl (by kernel_rfl) Tryz.ntmps188 rfl rfl rfl rfl (fun w0 β0 ext hβ=>?_)
 have hns:∀ ms,ty279.d ≠ .interface ms:=by intro ms h;cases h
 unfold rvOf fltA
 simp only
 repeat (first|refine jS ?_|refine jB ?_|refine jo rfl rfl (ne_ifc rfl rfl rfl) rfl rfl ?_|refine jo rfl rfl (ta_ok rfl rfl hns) rfl rfl ?_)
 refine jmid [1] [.ptr 2 0] (tryH4 (swC w k (fltT t e) i) (swC w k t i) e++[.box 279 [iv e]]) ?_ ?_
 ·refine jorders (Ls:=[[0,1,2,3,4,5,6,7,8,9,10,11],[0,1,2,4,3,5,6,7,8,9,10,11],[0,1,2,4,5,3,6,7,8,9,10,11],[0,1,2,4,5,6,3,7,8,9,10,11],[0,1,2,4,5,6,7,3,8,9,10,11],[0,1,4,2,3,5,6,7,8,9,10,11],[0,1,4,2,5,3,6,7,8,9,10,11],[0,1,4,2,5,6,3,7,8,9,10,11],[0,1,4,2,5,6,7,3,8,9,10,11],[0,1,4,5,2,3,6,7,8,9,10,11],[0,1,4,5,2,6,3,7,8,9,10,11],[0,1,4,5,2,6,7,3,8,9,10,11],[0,1,4,5,6,2,3,7,8,9,10,11],[0,1,4,5,6,2,7,3,8,9,10,11],[0,1,4,5,6,7,2,3,8,9,10,11],[0,2,1,3,4,5,6,7,8,9,10,11],[0,2,1,4,3,5,6,7,8,9,10,11],[0,2,1,4,5,3,6,7,8,9,10,11],[0,2,1,4,5,6,3,7,8,9,10,11],[0,2,1,4,5,6,7,3,8,9,10,11],[0,2,3,1,4,5,6,7,8,9,10,11],[1,0,2,3,4,5,6,7,8,9,10,11],[1,0,2,4,3,5,6,7,8,9,10,11],[1,0,2,4,5,3,6,7,8,9,10,11],[1,0,2,4,5,6,3,7,8,9,10,11],[1,0,2,4,5,6,7,3,8,9,10,11],[1,0,4,2,3,5,6,7,8,9,10,11],[1,0,4,2,5,3,6,7,8,9,10,11],[1,0,4,2,5,6,3,7,8,9,10,11],[1,0,4,2,5,6,7,3,8,9,10,11],[1,0,4,5,2,3,6,7,8,9,10,11],[1,0,4,5,2,6,3,7,8,9,10,11],[1,0,4,5,2,6,7,3,8,9,10,11],[1,0,4,5,6,2,3,7,8,9,10,11],[1,0,4,5,6,2,7,3,8,9,10,11],[1,0,4,5,6,7,2,3,8,9,10,11],[1,2,0,3,4,5,6,7,8,9,10,11],[1,2,0,4,3,5,6,7,8,9,10,11],[1,2,0,4,5,3,6,7,8,9,10,11],[1,2,0,4,5,6,3,7,8,9,10,11],[1,2,0,4,5,6,7,3,8,9,10,11],[1,2,3,0,4,5,6,7,8,9,10,11],[2,0,1,3,4,5,6,7,8,9,10,11],[2,0,1,4,3,5,6,7,8,9,10,11],[2,0,1,4,5,3,6,7,8,9,10,11],[2,0,1,4,5,6,3,7,8,9,10,11],[2,0,1,4,5,6,7,3,8,9,10,11],[2,0,3,1,4,5,6,7,8,9,10,11],[2,1,0,3,4,5,6,7,8,9,10,11],[2,1,0,4,3,5,6,7,8,9,10,11],[2,1,0,4,5,3,6,7,8,9,10,11],[2,1,0,4,5,6,3,7,8,9,10,11],[2,1,0,4,5,6,7,3,8,9,10,11],[2,1,3,0,4,5,6,7,8,9,10,11],[2,3,0,1,4,5,6,7,8,9,10,11],[2,3,1,0,4,5,6,7,8,9,10,11]]) (by kernel_rfl) ?_
  repeat' (first|exact List.forall_mem_nil _|refine List.forall_mem_cons.2 ⟨?_,?_⟩)
  all_goals (
   repeat (first|refine jS ?_|refine jD ?_|refine jB ?_)
  )
  all_goals exact jmeet rfl rfl
 ·unfold tryH4 swC fltT
  repeat (first|refine jS ?_|refine jD ?_|refine jB ?_)
  refine jBb [0] hp ?_
  repeat (first|refine jS ?_|refine jD ?_|refine jB ?_)
  exact jend [] false rfl rfl rfl ⟨rfl,rfl⟩
theorem fl1_pan (e:Int) (he:e≠0):ACalls Tryz.prog 150 [.ptr 0 0] [.box 34 [iv e]] (onep (fltA e) [.box 34 [iv e]]):=by
 have h:=must_pan e he
 refine jC Tryz.func150 Tryz.ntmps150 (fun w0 β0 ext hβ=>?_)
 repeat (first|refine jS ?_|refine jD ?_|refine jB ?_)
 refine jbp [] h rfl rfl rfl ⟨rfl,rfl,rfl,rfl,rfl,rfl⟩ rfl rfl rfl ?_
 exact qpan [] true rfl rfl rfl rfl
theorem try_flt (w:Wd) (k:Nat) (t:Thr) (i:Ins) (e:Int) (hk:k < w.thr.length) (hl:w.thr.length≤8) (he:e≠0) :
  ACalls Tryz.prog 146 [.ptr 0 0,.fn (.func 150) [] [.ptr 1 0]] (swH w k t i++[.box 34 [iv e]]) (one (.tup []) (swH (setT w k (fltT t e)) k (fltT t e) i++[.box 34 [iv e]])):=by
 have hcl:=clo_pan4 w w k t t i e hk hl
 have hd:=fl1_pan e he
 unfold tryH4 at hcl
 unfold swH at *
 generalize hc0:swC w k t i=c0 at *
 generalize hc2:swC (setT w k (fltT t e)) k (fltT t e) i=c2 at *
 unfold swC at hc0 hc2
 subst hc0 hc2
 refine acalls_try Tryz.func146 rfl (by kernel_rfl) Tryz.ntmps146 rfl rfl (fun w0 β0 ext hβ=>?_)
 repeat (first|refine jS ?_|refine jD ?_|refine jB ?_)
 refine jonly ?_
 repeat (first|refine jS ?_|refine jD ?_|refine jB ?_)
 refine jonly ?_
 repeat (first|refine jS ?_|refine jD ?_|refine jB ?_)
 refine jonly ⟨188,[],[.ptr 3 0,.ptr 2 0],rfl,⟨_,Tryz.func188,by kernel_rfl,by kernel_rfl⟩,fun w2 β2 d=>?_⟩
 repeat (first|refine jS ?_|refine jD ?_|refine jB ?_)
 refine jbp [1] hd rfl rfl rfl ⟨rfl,rfl,rfl,rfl,rfl,rfl⟩ rfl rfl rfl ?_
 exact ⟨_,_,[],true,hcl,rfl,rfl,rfl,rfl⟩
end Go.AL
end
section
set_option maxRecDepth 100000
namespace Go.AL
open Go Go.Proofs
attribute [local irreducible] J
theorem DoR.of {w:Wd} {k:Nat} (h:WdR w) (hk:k < w.thr.length):DoR w k (thrAt w k):=by
 have hm:thrAt w k∈w.thr:=by rw [thrAt_at hk];exact at_mem hk
 obtain ⟨h1,h2⟩:=h.thr _ hm
 have h3:=thRight_len h1
 exact ⟨h.tso,by rw [←h.len];exact hk,h3.1,h3.2,thRight_pc h1⟩
theorem inT_nat {w:Wd} {k:Int} (h:inT w k=true):∃ q:Nat,k=q∧q < w.thr.length:=by
 have:=inn_iff.1 h
 exact ⟨k.toNat,by omega,by omega⟩
theorem insR_op23 {w:Wd} {k:Nat} (h:WdR w) (hk:k < w.thr.length):InsR (instrAt w (thrAt w k)):=insR_at h (DoR.of h hk).pc.1
theorem can_ok (w:Wd) (k:Nat) (h:WdR w) (hk:k < w.thr.length) :
  ACalls Tryz.prog 145 [.ptr 0 0] (swH w k (thrAt w k) (instrAt w (thrAt w k))) (one (bv (canW w k)) (swH w k (thrAt w k) (instrAt w (thrAt w k)))):=by
 have hd:=DoR.of h hk
 have hi:=insR_op23 h hk
 exact scan_ok w k _ _ (by rw [←h.len];exact hk) h.tso (by have:=hd.left;omega) (fun h23=>⟨(hi.ab (by omega)).1,(hi.ab (by omega)).2⟩)
theorem cans_ok (w:Wd) (k:Nat) (h:WdR w) (hk:k < w.thr.length):ACalls Tryz.prog 91 [encWd w,iv (k:Int)] [] (one (.tup [bv (canW w k),iv 0]) []):=by
 have h1:=at_ok w k h hk
 have h2:=can_ok w k h hk
 unfold swH swC at h1 h2
 unfold encWd wCells ivs at *
 refine jC Tryz.func91 Tryz.ntmps91 (fun w0 β0 ext hβ=>?_)
 repeat (first|refine jS ?_|refine jD ?_|refine jB ?_)
 refine jBb [] h1 ?_
 repeat (first|refine jS ?_|refine jD ?_|refine jB ?_)
 refine jBb [1] h2 ?_
 repeat (first|refine jS ?_|refine jD ?_|refine jB ?_)
 exact jR
theorem step_out (w:Wd) (k:Int) (h:WdR w) (hk:inT w k=false):ACalls Tryz.prog 93 [encWd w,iv k] [] (one (.tup [encWd wd0,iv 3]) []):=by
 have h1:=at_out w k h hk
 unfold encWd wCells ivs at *
 refine jC Tryz.func93 Tryz.ntmps93 (fun w0 β0 ext hβ=>?_)
 repeat (first|refine jS ?_|refine jD ?_|refine jB ?_|refine jV h1 ?_)
 exact jR
theorem step_cannot (w:Wd) (k:Nat) (h:WdR w) (hk:k < w.thr.length) (hc:canW w k=false):ACalls Tryz.prog 93 [encWd w,iv (k:Int)] [] (one (.tup [encWd wd0,iv 9]) []):=by
 have h1:=at_ok w k h hk
 have h2:=can_ok w k h hk
 rw [hc] at h2
 unfold swH swC at h1 h2
 unfold encWd wCells ivs at *
 refine jC Tryz.func93 Tryz.ntmps93 (fun w0 β0 ext hβ=>?_)
 repeat (first|refine jS ?_|refine jD ?_|refine jB ?_)
 refine jBb [] h1 ?_
 repeat (first|refine jS ?_|refine jD ?_|refine jB ?_)
 refine jBb [2] h2 ?_
 repeat (first|refine jS ?_|refine jD ?_|refine jB ?_)
 exact jR
theorem dstep_ok (w:Wd) (k:Nat) (h:WdR w) (hk:k < w.thr.length) (he:w.evs.length≤1000000) :
  ∃ t',ACalls Tryz.prog 146 [.ptr 0 0,.fn (.func 147) [.ptr 0 0] []] (swH w k (thrAt w k) (instrAt w (thrAt w k))) (one (.tup []) (swH (doW w k) k t' (instrAt w (thrAt w k)))):=by
 have hd:=DoR.of h hk
 have hi:=insR_op23 h hk
 have hl:=h.tso.sz
 have hl8:w.thr.length≤8:=by rw [h.len];omega
 unfold doW doOp
 by_cases e:(doN w k (thrAt w k) (instrAt w (thrAt w k))).2.2=0
 ·have h1:=sdo_ok w k _ _ hd hi he e
  rw [decide_eq_true e]
  have hth:(doN w k (thrAt w k) (instrAt w (thrAt w k))).1.thr=w.thr:=by
   unfold doN
   split<;>try rfl
   cases decide (0 < (thrAt w k).left.length)<;>rfl
  exact ⟨_,try_ok w _ k _ _ _ (by rw [hth];exact hk) (by rw [hth];exact hl8) h1⟩
 ·obtain ⟨t',h1⟩:=sdo_pan w k _ _ hd hi e
  rw [decide_eq_false e]
  exact ⟨_,try_pan w w k _ _ _ _ hk hl8 h1⟩
theorem step_ok (w:Wd) (k:Nat) (h:WdR w) (hk:k < w.thr.length) (hc:canW w k=true) (he:w.evs.length≤1000000):ACalls Tryz.prog 93 [encWd w,iv (k:Int)] [] (one (.tup [encWd (doW w k),iv 0]) []):=by
 have h1:=at_ok w k h hk
 have h2:=can_ok w k h hk
 obtain ⟨t',h3⟩:=dstep_ok w k h hk he
 rw [hc] at h2
 unfold swH swC at h1 h2 h3
 generalize doW w k=w1 at *
 unfold encWd wCells ivs at *
 refine jC Tryz.func93 Tryz.ntmps93 (fun w0 β0 ext hβ=>?_)
 repeat (first|refine jS ?_|refine jD ?_|refine jB ?_)
 refine jBb [] h1 ?_
 repeat (first|refine jS ?_|refine jD ?_|refine jB ?_)
 refine jBb [2] h2 ?_
 repeat (first|refine jS ?_|refine jD ?_|refine jB ?_)
 refine jBb [2] h3 ?_
 repeat (first|refine jS ?_|refine jD ?_|refine jB ?_)
 exact jR
end Go.AL
end
section
set_option maxRecDepth 100000
namespace Go.AL
open Go Go.Proofs
attribute [local irreducible] J
theorem waned_set (l:List Thr) (k q:Nat) (hq:q < l.length):((l.take q).map (waned k)++l.drop q).set q (waned k (at' l (q:Int)))=(l.take (q+1)).map (waned k)++l.drop (q+1):=by
 rw [at_nat l q hq]
 have e1:l.drop q=l[q]::l.drop (q+1):=List.drop_eq_getElem_cons hq
 rw [e1,List.set_append_right _ _ (by simp;omega)]
 have e2:q-((l.take q).map (waned k)).length=0:=by simp;omega
 rw [e2,List.set_cons_zero,List.take_add_one,List.getElem?_eq_getElem hq]
 rw [List.map_append]
 simp
theorem waned_at (l:List Thr) (k q:Nat) (hq:q < l.length):at' ((l.take q).map (waned k)++l.drop q) (q:Int)=at' l (q:Int):=by
 rw [at_nat _ q (by simp;omega),at_nat l q hq,List.getElem_append_right (by simp;omega)]
 simp only [List.length_map,List.length_take,List.getElem_drop]
 congr 1;omega
theorem waned_len (l:List Thr) (k q:Nat) (hq:q≤l.length):((l.take q).map (waned k)++l.drop q).length=l.length:=by simp;omega
theorem set_self_at {α:Type} [Inhabited α] {l:List α} {q:Nat} {x:α} (h:at' l (q:Int)=x) (hq:q < l.length):l.set q x=l:=by
 rw [at_nat l q hq] at h
 rw [←h];exact List.set_getElem_self _
theorem slz_of {c:Ctx} {xs:List AVal} {u:Value} (h:xs≠[]) (hr:Rel c (.sl xs) u):Rel c (.slz xs) u:=by
 cases xs with
 | nil=>exact absurd rfl h
 | cons x r=>exact sl_slz hr
theorem thr_left (T:Thr) (l:List Int):elemSet (encThr T) 12 [.slz (l.map iv)]=encThr { T with left:=l }:=rfl
def swA (w : Wd) (k : Int) (t : Thr) (i : Ins) (x : AVal) : List AVal :=
  [.sl (w.code.map encIns), .sl (w.tso.mem.words.map iv), .sl (w.tso.mem.tags.map iv), iv w.tso.depth, .sl (w.tso.bufs.map encBuf), x, .sl (w.evs.map encEvt), iv k,
   iv t.pc, iv (g0 t.regs 0), iv (g0 t.regs 1), iv (g0 t.regs 2), iv (g0 t.regs 3), iv (g0 t.regs 4), iv (g0 t.regs 5), iv (g0 t.regs 6), iv (g0 t.regs 7), .sl (t.frames.map encFrm), iv t.state, iv t.fault, .slz (t.left.map iv), iv i.op, iv i.a, iv i.b, iv i.c]
theorem flushed_ok (w:Wd) (k:Nat) (t:Thr) (i:Ins) (h0:w.thr≠[]) (h8:w.thr.length≤8) (hk:k < w.thr.length) (ht:∀ x∈w.thr,(x.left.length=0∨x.left.length=w.thr.length)∧∀ n∈x.left,0≤n∧n≤8) :
  ACalls Tryz.prog 152 [.ptr 0 0] (swH w k t i) (one (.tup []) (swH { w with thr:=w.thr.map (waned k) } k t i)):=by
 have hc:=clone_thr w.thr h0 (by omega)
 unfold swH swC
 refine jC Tryz.func152 Tryz.ntmps152 (fun w0 β0 ext hβ=>?_)
 repeat (first|refine jS ?_|refine jD ?_|refine jB ?_)
 refine jBb [] hc ?_
 repeat (first|refine jS ?_|refine jD ?_|refine jB ?_|refine jo rfl rfl (len_arr rfl rfl rfl rfl) rfl rfl ?_)
 refine jloop 2 (fun q:Nat=>q≤w.thr.length) [0,19,20] (fun q=>[.ptr 0 0,.v (.int .i64 ((w.thr.map encThr).length:Int)),.v (.int .i64 (q:Int))])
  (fun q=>[.box 233 (swA w k t i (.arr 1 1)),.arr 1 43 13 (((w.thr.take q).map (waned k)++w.thr.drop q).map encThr)]) (fun q=>w.thr.length-q) 0 (by show β0.length≤2;rw [hβ];exact Nat.le_of_ble_eq_true rfl) (Nat.zero_le _) rfl ?_ (fun q hq=>?_)
 ·rfl
 unfold swA
 simp only
 repeat (first|refine jS ?_|refine jD ?_|refine jB ?_)
 refine jc rfl rfl rfl (fun h=>?_) (fun h=>?_)
 ·have h:=of_decide_eq_true h
  rw [List.length_map] at h
  have hq2:q < w.thr.length:=by omega
  have hst:=waned_set w.thr k q hq2
  have hat:=waned_at w.thr k q hq2
  have hln:=waned_len w.thr k q hq
  have hidx:IntKind.i64.wrap ((q:Int)+1)=((q+1:Nat):Int):=idx_next hq2 (by omega)
  obtain ⟨ht1,ht2⟩:=ht _ (at_mem hq2)
  have hwn:waned k (at' w.thr (q:Int))=cond (decide (0 < (at' w.thr (q:Int)).left.length)) { at' w.thr (q:Int) with left:=(at' w.thr (q:Int)).left.set k (max (g0 (at' w.thr (q:Int)).left k-1) 0) } (at' w.thr (q:Int)):=rfl
  generalize (w.thr.take q).map (waned k)++w.thr.drop q=L at *
  generalize hL':(w.thr.take (q+1)).map (waned k)++w.thr.drop (q+1)=L' at *
  have hqL:(q:Int) < (L.map encThr).length:=by rw [List.length_map];omega
  have hel:(L.map encThr)[(q:Int).toNat]? = some (encThr (at' w.thr (q:Int))):=by rw [map_at (by omega),hat]
  generalize at' w.thr (q:Int)=T at *
  have hd:decide ((((T.left.map iv).length:Nat):Int) > 0)=decide (0 < T.left.length):=by rw [List.length_map];exact decide_eq_decide.2 (by omega)
  repeat (first|refine jS ?_|refine jD ?_|refine jB ?_|refine jo rfl rfl (index_own rfl rfl rfl rfl rfl rfl (Int.natCast_nonneg q) hqL) rfl rfl ?_|refine jo rfl rfl (field_own rfl rfl rfl rfl rfl rfl (by decide)) rfl rfl ?_|refine jo rfl rfl (load_own rfl rfl hel rfl rfl rfl) rfl rfl ?_)
  rw [hd]
  cases hz:decide (0 < T.left.length) with
  | false =>
   rw [hz] at hwn
   rw [hwn] at hst
   repeat (first|refine jS ?_|refine jD ?_|refine jB ?_)
   have hself:L=L':=by rw [←hst];exact (set_self_at hat (by omega)).symm
   refine jnext (q+1) hq2 (by omega) rfl rfl rfl ?_ ?_
   ·rw [hidx]
   ·rw [hself,hL'];rfl
  | true =>
   rw [hz] at hwn
   rw [hwn] at hst
   have hpos:=of_decide_eq_true hz
   have hkl:k < T.left.length:=by omega
   have hkT:(k:Int) < (T.left.map iv).length:=by rw [List.length_map];omega
   have hTk:(T.left.map iv)[(k:Int).toNat]? = some (iv (g0 T.left k)):=map_at hkl
   have hg0:0≤g0 T.left k∧g0 T.left k≤8:=ht2 _ (by unfold g0;rw [List.getD_eq_getElem?_getD,List.getElem?_eq_getElem hkl];exact List.getElem_mem hkl)
   have hmx:(if (0:Int) > IntKind.i64.wrap (g0 T.left k-1) then (0:Int) else IntKind.i64.wrap (g0 T.left k-1))=max (g0 T.left k-1) 0:=by
    rw [wrap_id (by omega) (by omega)]
    split<;>omega
   have hne:(T.left.set k (max (g0 T.left k-1) 0)).map iv≠[]:=by
    intro e
    have:=congrArg List.length e
    simp at this
    rw [this] at hpos
    simp at hpos
   have hci:=clone_int T.left (by intro e;rw [e] at hpos;simp at hpos) (by omega)
   refine jc rfl rfl rfl (fun _=>?_) (fun hf=>absurd hf (by decide))
   refine jweak 3 (.sl (T.left.map iv)) rfl rfl (fun c u h=>slz_weak h) ?_
   repeat (first|refine jS ?_|refine jD ?_|refine jB ?_)
   refine jBb [] hci ?_
   repeat (first|refine jS ?_|refine jB ?_)
   refine jdrawPT [(0,.p),(1,.p),(2,.p),(3,.p),(4,.r),(5,.p),(6,.p),(7,.p),(8,.p),(9,.r),(10,.s),(11,.s),(12,.p),(13,.p),(14,.s),(15,.m)] rfl (by kernel_rfl) ?_
   repeat (first|refine jS ?_|refine jD ?_|refine jB ?_|refine jo rfl rfl (index_own rfl rfl rfl rfl rfl rfl (Int.natCast_nonneg k) hkT) rfl rfl ?_|refine jo rfl rfl (load_own rfl rfl hTk rfl rfl rfl) rfl rfl ?_)
   refine jo rfl rfl (store_enc (enc:=iv) (l:=T.left) (l':=T.left.set k (max (g0 T.left k-1) 0)) rfl rfl rfl hTk rfl rfl rfl rfl rfl (Nat.le_of_ble_eq_true rfl) (.inr ⟨rfl,rfl⟩) (by rw [hmx];exact put_at (enc:=iv) rfl) rfl) rfl rfl ?_
   refine jS ?_;refine jS ?_
   refine jpub 3 rfl rfl rfl rfl ?_
   refine jweak 3 (.slz ((T.left.set k (max (g0 T.left k-1) 0)).map iv)) rfl rfl (fun c u h=>slz_of hne h) ?_
   repeat (first|refine jS ?_|refine jD ?_|refine jB ?_|refine jo rfl rfl (index_own rfl rfl rfl rfl rfl rfl (Int.natCast_nonneg q) hqL) rfl rfl ?_|refine jo rfl rfl (field_own rfl rfl rfl rfl rfl rfl (by decide)) rfl rfl ?_)
   refine jo rfl rfl (store_enc (enc:=encThr) (l:=L) (l':=L') rfl rfl rfl hel rfl rfl rfl rfl rfl (Nat.le_of_ble_eq_true rfl) (.inl ⟨_,rfl⟩) (by rw [Int.toNat_natCast,←hst,List.map_set (l:=L)];exact congrArg _ (thr_left T _)) rfl) rfl rfl ?_
   repeat (first|refine jS ?_|refine jD ?_|refine jB ?_)
   refine jnext (q+1) hq2 (by omega) rfl rfl rfl ?_ ?_
   ·rw [hidx]
   ·rw [hL'];rfl
 ·have h:=of_decide_eq_false h
  rw [List.length_map] at h
  have:q=w.thr.length:=by omega
  subst this
  rw [List.take_length,List.drop_length,List.append_nil]
  repeat (first|refine jS ?_|refine jD ?_|refine jB ?_)
  exact jend [] true rfl rfl rfl ⟨rfl,rfl⟩
end Go.AL
end
section
set_option maxRecDepth 100000
namespace Go.AL
open Go Go.Proofs
attribute [local irreducible] J
theorem thRight_left {t:Thr} (h:thRight t=true):∀ n∈t.left,0≤n∧n≤8:=by
 unfold thRight at h
 simp only [Bool.and_eq_true,List.all_eq_true] at h
 exact fun n hn=>inn_iff.1 (h.2.2.2.2.1 n hn)
theorem flush_out (w:Wd) (k:Int) (h:WdR w) (hk:inT w k=false):ACalls Tryz.prog 94 [encWd w,iv k] [] (one (.tup [encWd wd0,iv 3]) []):=by
 have h1:=at_out w k h hk
 unfold encWd wCells ivs at *
 refine jC Tryz.func94 Tryz.ntmps94 (fun w0 β0 ext hβ=>?_)
 repeat (first|refine jS ?_|refine jD ?_|refine jB ?_|refine jV h1 ?_)
 exact jR
theorem flush_none (w:Wd) (k:Nat) (h:WdR w) (hk:k < w.thr.length) (hb:bufAt w.tso k=[]):ACalls Tryz.prog 94 [encWd w,iv (k:Int)] [] (one (.tup [encWd wd0,iv 8]) []):=by
 have h1:=at_ok w k h hk
 have h2:=pop_none
 have hkb:(k:Int) < w.tso.bufs.length:=by rw [←h.len];omega
 rw [bufAt_at] at hb
 unfold swH swC at h1
 unfold encWd wCells ivs at *
 refine jC Tryz.func94 Tryz.ntmps94 (fun w0 β0 ext hβ=>?_)
 repeat (first|refine jS ?_|refine jD ?_|refine jB ?_)
 refine jBb [] h1 ?_
 repeat (first|refine jS ?_|refine jD ?_|refine jB ?_|refine jI (Int.natCast_nonneg k) hkb ?_)
 rw [hb]
 repeat (first|refine jS ?_|refine jD ?_|refine jB ?_|refine jV h2 ?_)
 exact jR
def popW (w:Wd) (k:Nat) (r:List Wput):Wd:={ w with tso:={ w.tso with bufs:=w.tso.bufs.set k r } }
def memW (w:Wd) (m:Mem):Wd:={ w with tso:={ w.tso with mem:=m } }
def wanW (w:Wd) (k:Nat):Wd:={ w with thr:=w.thr.map (waned k) }
theorem flushD_eq (w:Wd) (k:Nat) (p:Wput) (r:List Wput):flushD w k p r=wanW (cond (decide ((mStore w.tso.mem p.loc p.val).2=0)) (memW (popW w k r) (mStore w.tso.mem p.loc p.val).1)
  (cond (decide ((thrAt w k).state=2)) (popW w k r) (setT (popW w k r) k (fltT (thrAt w k) (mStore w.tso.mem p.loc p.val).2)))) k:=rfl
theorem flush_ok (w:Wd) (k:Nat) (h:WdR w) (hk:k < w.thr.length) {p:Wput} {r:List Wput} (hb:bufAt w.tso k=p::r):ACalls Tryz.prog 94 [encWd w,iv (k:Int)] [] (one (.tup [encWd (flushD w k p r),iv 0]) []):=by
 have h1:=at_ok w k h hk
 have hkb:(k:Int) < w.tso.bufs.length:=by rw [←h.len];omega
 have hbk:=hb
 rw [bufAt_at] at hbk
 have hsz:=h.tso.sz
 have hrl:r.length≤900:=by
  have:=(h.tso.put _ (at_mem (l:=w.tso.bufs) (k:=k) (by omega))).1
  rw [hbk] at this
  simp at this;omega
 have h2:=pop_ok p r hrl
 have h3:=store_ok w.tso.mem p.loc p.val h.tso.mem
 have h4:=clone_buf w.tso.bufs (by intro e;rw [e] at hkb;simp at hkb;omega) (by omega)
 have hl8:w.thr.length≤8:=by rw [h.len];omega
 have hthr:∀ x∈w.thr,(x.left.length=0∨x.left.length=w.thr.length)∧∀ n∈x.left,0≤n∧n≤8:=fun x hx=>⟨(h.thr x hx).2,thRight_left (h.thr x hx).1⟩
 have hne:w.thr≠[]:=by intro e;rw [e] at hk;simp at hk
 have hkt:k < (popW w k r).thr.length:=hk
 have hmem:thrAt w k∈w.thr:=by rw [thrAt_at hk];exact at_mem hk
 rw [flushD_eq]
 generalize hms:mStore w.tso.mem p.loc p.val=ms at *
 obtain ⟨m',e⟩:=ms
 simp only at *
 generalize hth:thrAt w k=T at *
 generalize hin:instrAt w T=I at *
 have h5:=fun hne0=>try_flt (popW w k r) k T I e hk hl8 hne0
 have h6:=flushed_ok (memW (popW w k r) m') k T I hne hl8 hk hthr
 have h7:=flushed_ok (popW w k r) k T I hne hl8 hk hthr
 have h8:=flushed_ok (setT (popW w k r) k (fltT T e)) k (fltT T e) I (by intro e;have:=congrArg List.length e;unfold setT at this;simp at this;exact hne this) (by unfold setT;simp;exact hl8) (by unfold setT;simp;exact hk) (by
  intro x hx
  have hl:(setT (popW w k r) k (fltT T e)).thr.length=w.thr.length:=by unfold setT;simp;rfl
  rw [hl]
  have hx:x∈w.thr.set k (fltT T e):=hx
  rcases List.mem_or_eq_of_mem_set hx with hx|rfl
  ·exact hthr x hx
  ·exact hthr T hmem)
 have hd:(T.state != 2) = !decide (T.state=2):=rfl
 have hd2:(e == 0)=decide (e=0):=rfl
 unfold wanW
 unfold swH swC at *
 unfold encWd wCells ivs at *
 unfold encMem mCells ivs at h3
 unfold popW memW setT fltT at *
 simp only at *
 refine jC Tryz.func94 Tryz.ntmps94 (fun w0 β0 ext hβ=>?_)
 repeat (first|refine jS ?_|refine jD ?_|refine jB ?_)
 refine jBb [] h1 ?_
 repeat (first|refine jS ?_|refine jD ?_|refine jB ?_|refine jI (Int.natCast_nonneg k) hkb ?_)
 rw [hbk]
 repeat (first|refine jS ?_|refine jD ?_|refine jB ?_|refine jV h2 ?_)
 refine jBb [] h4 ?_
 repeat (first|refine jS ?_|refine jD ?_|refine jB ?_)
 refine jo rfl rfl (index_own (xs:=w.tso.bufs.map encBuf) (n:=(k:Int)) rfl rfl rfl rfl rfl rfl (by omega) (by simp;omega)) rfl rfl ?_
 refine jo rfl rfl (store_enc (enc:=encBuf) (l:=w.tso.bufs) (l':=w.tso.bufs.set k r) rfl rfl rfl (map_at (by omega)) rfl rfl rfl rfl rfl (Nat.le_of_ble_eq_true rfl) (.inr ⟨rfl,rfl⟩) (put_at (enc:=encBuf) rfl) rfl) rfl rfl ?_
 refine jS ?_;refine jS ?_
 refine jfin 4 [1,2,4,6,8] true rfl rfl rfl (by show β0.length≤4;rw [hβ];exact Nat.le_of_ble_eq_true rfl) ?_
 repeat (first|refine jS ?_|refine jD ?_|refine jB ?_|refine jV h3 ?_)
 rw [hd2]
 cases he:decide (e=0) with
 | true =>
  repeat (first|refine jS ?_|refine jD ?_|refine jB ?_)
  refine jBb [2] h6 ?_
  repeat (first|refine jS ?_|refine jD ?_|refine jB ?_)
  exact jR
 | false =>
  have he0:=of_decide_eq_false he
  have h5:=h5 he0
  repeat (first|refine jS ?_|refine jD ?_|refine jB ?_)
  rw [hd]
  cases hs:decide (T.state=2) with
  | true =>
   repeat (first|refine jS ?_|refine jD ?_|refine jB ?_)
   refine jBb [2] h7 ?_
   repeat (first|refine jS ?_|refine jD ?_|refine jB ?_)
   exact jR
  | false =>
   repeat (first|refine jS ?_|refine jD ?_|refine jB ?_)
   refine jBb [2,5] h5 ?_
   repeat (first|refine jS ?_|refine jD ?_|refine jB ?_)
   refine jBb [2] h8 ?_
   repeat (first|refine jS ?_|refine jD ?_|refine jB ?_)
   exact jR
end Go.AL
end
section
namespace Go.AL
open Go Go.Proofs
structure ThR (t:Thr):Prop where
 pc:0≤t.pc∧t.pc≤1000
 fr:t.frames.length≤6
 ll:t.left.length≤8
 back:∀ f∈t.frames,0≤f.back∧f.back≤1000
 left:∀ n∈t.left,0≤n∧n≤8
 st:((t.state=0∨t.state=1)∧t.fault=0)∨(t.state=2∧1≤t.fault∧t.fault≤16)
theorem thRight_iff {t:Thr}:thRight t=true↔ThR t:=by
 have e:(cond (decide (t.state=0)||decide (t.state=1)) (decide (t.fault=0)) (cond (decide (t.state=2)) (inn t.fault 1 16) false))=true↔((t.state=0∨t.state=1)∧t.fault=0)∨(t.state=2∧1≤t.fault∧t.fault≤16):=by
  by_cases h0:t.state=0
  ·simp [h0]
  ·by_cases h1:t.state=1
   ·simp [h1]
   ·by_cases h2:t.state=2
    ·simp [h2,inn_iff]
    ·simp [h0,h1,h2]
 unfold thRight
 simp only [Bool.and_eq_true,inn_iff,decide_eq_true_eq,List.all_eq_true,e]
 constructor
 ·rintro ⟨a,b,c,d,f,g⟩;exact ⟨a,b,c,d,f,g⟩
 ·rintro ⟨a,b,c,d,f,g⟩;exact ⟨a,b,c,d,f,g⟩
theorem mUse_ok {m:Mem} {k:Int} (h:mUse m k=0):(0≤k∧k < m.words.length)∧g0 m.tags k.toNat=1:=by
 unfold mUse at h
 cases hi:inn k 0 (m.words.length-1) with
 | false=>rw [hi] at h;cases h
 | true =>
  have h2:=inn_iff.1 hi
  rw [hi] at h
  refine ⟨by omega,?_⟩
  simp only [cond_true,why] at h
  by_cases h0:g0 m.tags k.toNat=0
  ·rw [decide_eq_true h0] at h;cases h
  ·rw [decide_eq_false h0] at h
   by_cases h1:g0 m.tags k.toNat=1
   ·exact h1
   ·rw [decide_eq_false h1] at h;cases h
theorem rng_c {x:Int} (c:Int) (h:x=c) (h1:(1≤c∧c≤16)):1≤x∧x≤16:=by rw [h];exact h1
theorem mUse_rng (m:Mem) (k:Int):mUse m k=0∨(1≤mUse m k∧mUse m k≤16):=by
 unfold mUse
 cases inn k 0 (m.words.length-1) with
 | false=>exact .inr (rng_c 3 rfl (by decide))
 | true =>
  simp only [cond_true,why]
  cases decide (g0 m.tags k.toNat=0) with
  | true=>exact .inr (rng_c 4 rfl (by decide))
  | false=>cases decide (g0 m.tags k.toNat=1) with
   | true=>exact .inl rfl
   | false=>exact .inr (rng_c 5 rfl (by decide))
theorem mLoad_two (m:Mem) (k:Int):(mLoad m k).2=mUse m k:=by
 unfold mLoad
 by_cases h:mUse m k=0
 ·rw [decide_eq_true h];simp [h]
 ·rw [decide_eq_false h];simp
theorem mStore_two (m:Mem) (k v:Int):(mStore m k v).2=mUse m k:=by
 unfold mStore
 by_cases h:mUse m k=0
 ·rw [decide_eq_true h];simp [h]
 ·rw [decide_eq_false h];simp
theorem mStore_one {m:Mem} {k v:Int} (h:mUse m k=0):(mStore m k v).1=⟨m.words.set k.toNat v,m.tags⟩:=by
 unfold mStore;rw [decide_eq_true h];rfl
theorem at_g0 (l:List Int) (q:Nat):at' l (q:Int)=g0 l q:=rfl
theorem mStore_right {m:Mem} {k v:Int} (hr:mRight m=true) (h:mUse m k=0):mRight (mStore m k v).1=true∧(mStore m k v).1.words.length=m.words.length:=by
 obtain ⟨h1,h2⟩:=mUse_ok h
 obtain ⟨r1,r2,r3,r4⟩:=(mRight_iff m).1 hr
 rw [mStore_one h]
 refine ⟨(mRight_iff _).2 ⟨by simpa using r1,by simpa using r2,by simpa using r3,fun q hq=>?_⟩,by simp⟩
 by_cases e:q=k.toNat
 ·subst e
  rw [at_g0,h2]
  rfl
 ·have:=r4 q hq
  rw [at_g0,at_g0] at *
  have e2:g0 (m.words.set k.toNat v) q=g0 m.words q:=by
   unfold g0
   simp only [List.getD_eq_getElem?_getD]
   rw [List.getElem?_set_ne (by omega)]
  show tagOk (g0 m.tags q) (g0 (m.words.set k.toNat v) q)=true
  rw [e2];exact this
theorem mkBad_rng (tags:List Int) (k:Nat) (tag:Int):∀ n,mkBad tags k tag n=0∨(1≤mkBad tags k tag n∧mkBad tags k tag n≤16)
 | 0=>.inl rfl
 | n+1=>by
  unfold mkBad
  cases decide (mkBad tags k tag n=0) with
  | false=>exact mkBad_rng tags k tag n
  | true =>
   simp only [cond_true,mkE,why]
   cases decide (tag=1)<;>cases decide (g0 tags (k+n)=0)<;>cases decide (g0 tags (k+n)=1)<;>simp
theorem mMark_rng (m:Mem) (k n tag:Int):(mMark m k n tag).2=0∨(1≤(mMark m k n tag).2∧(mMark m k n tag).2≤16):=by
 unfold mMark
 cases (decide (1≤n)&&(inn k 0 (m.words.length-1)&&decide (n≤m.words.length-k))) with
 | false=>exact .inr (by simp)
 | true =>
  have:=mkBad_rng m.tags k.toNat tag n.toNat
  cases decide (mkBad m.tags k.toNat tag n.toNat=0) with
  | true=>exact .inl rfl
  | false=>exact this
theorem mkTags_all {tags:List Int} {k n:Nat} {tag:Int} (h:k+n≤tags.length) (q:Nat):g0 (mkTags tags k n tag) q=g0 tags q∨g0 (mkTags tags k n tag) q=tag:=by
 unfold mkTags g0
 simp only [List.getD_eq_getElem?_getD]
 by_cases h1:q < k
 ·left
  rw [List.append_assoc,List.getElem?_append_left (by simp;omega),List.getElem?_take_of_lt h1]
 ·by_cases h2:q < k+n
  ·right
   rw [List.getElem?_append_left (by simp;omega),List.getElem?_append_right (by simp;omega),List.getElem?_replicate,if_pos (by simp;omega)]
   rfl
  ·left
   rw [List.getElem?_append_right (by simp;omega),List.getElem?_drop]
   congr 2
   simp;omega
theorem mMark_right {m:Mem} {k n tag:Int} (hr:mRight m=true) (ht:tag=1∨tag=2) (h:(mMark m k n tag).2=0):mRight (mMark m k n tag).1=true∧(mMark m k n tag).1.words.length=m.words.length:=by
 obtain ⟨r1,r2,r3,r4⟩:=(mRight_iff m).1 hr
 unfold mMark at *
 cases hc:(decide (1≤n)&&(inn k 0 (m.words.length-1)&&decide (n≤m.words.length-k))) with
 | false=>rw [hc] at h;cases h
 | true =>
  rw [hc] at h
  simp only [Bool.and_eq_true,decide_eq_true_eq,inn_iff] at hc
  cases hb:decide (mkBad m.tags k.toNat tag n.toNat=0) with
  | false =>
   rw [hb] at h
   exact absurd h (of_decide_eq_false hb)
  | true =>
   have hle:k.toNat+n.toNat≤m.tags.length:=by omega
   refine ⟨(mRight_iff _).2 ⟨r1,r2,by rw [cond_true,cond_true];show (mkTags _ _ _ _).length=_;rw [mkTags_len hle];exact r3,fun q hq=>?_⟩,rfl⟩
   have hq:q < m.tags.length:=by rw [cond_true,cond_true] at hq;have:q < (mkTags m.tags k.toNat n.toNat tag).length:=hq;rwa [mkTags_len hle] at this
   have:=r4 q hq
   show tagOk (g0 (mkTags m.tags k.toNat n.toNat tag) q) (g0 m.words q)=true
   rcases mkTags_all hle q with e|e
   ·rw [e];exact this
   ·rw [e]
    rcases ht with rfl|rfl<;>simp [tagOk]
theorem TsR.mem_set {t:Tso} {m:Mem} (h:TsR t) (hm:mRight m=true) (hl:m.words.length=t.mem.words.length):TsR { t with mem:=m } :=
 ⟨hm,h.sz,fun b hb=>by rw [show ({ t with mem:=m }:Tso).mem.words.length=t.mem.words.length from hl];exact h.put b hb⟩
theorem tsLoad_rng (t:Tso) (k:Nat) (a:Int):(tsLoad t k a).2=0∨(1≤(tsLoad t k a).2∧(tsLoad t k a).2≤16):=by
 unfold tsLoad
 cases hd:decide ((mLoad t.mem a).2=0) with
 | true=>exact .inl rfl
 | false=>rw [mLoad_two];exact mUse_rng _ _
theorem tsStore_rng (t:Tso) (k:Nat) (a v:Int):(tsStore t k a v).2=0∨(1≤(tsStore t k a v).2∧(tsStore t k a v).2≤16):=by
 unfold tsStore
 cases hd:decide ((mStore t.mem a v).2=0) with
 | false=>rw [mStore_two];exact mUse_rng _ _
 | true =>
  cases decide (t.depth=0) with
  | true=>exact .inl rfl
  | false=>cases decide ((bufAt t k).length=t.depth) with
   | true=>exact .inr (rng_c 7 rfl (by decide))
   | false=>exact .inl rfl
theorem tsLocked_rng (t:Tso) (k:Nat) (kd a x y:Int):(tsLocked t k kd a x y).2.2=0∨(1≤(tsLocked t k kd a x y).2.2∧(tsLocked t k kd a x y).2.2≤16):=by
 unfold tsLocked
 cases decide ((bufAt t k).length=0) with
 | false=>exact .inr (rng_c 9 rfl (by decide))
 | true =>
  cases hd:decide ((mLoad t.mem a).2=0) with
  | true=>exact .inl rfl
  | false=>rw [mLoad_two];exact mUse_rng _ _
theorem tsStore_right {t:Tso} {k:Nat} {a v:Int} (h:TsR t) (hk:k < t.bufs.length) (he:(tsStore t k a v).2=0):TsR (tsStore t k a v).1∧(tsStore t k a v).1.bufs.length=t.bufs.length:=by
 unfold tsStore at *
 cases hd:decide ((mStore t.mem a v).2=0) with
 | false=>rw [hd] at he;rw [cond_false] at he;exact absurd he (of_decide_eq_false hd)
 | true =>
  have hu:=of_decide_eq_true hd
  rw [mStore_two] at hu
  obtain ⟨m1,m2⟩:=mStore_right (v:=v) h.mem hu
  rw [hd] at he
  simp only [cond_true] at he ⊢
  cases hz:decide (t.depth=0) with
  | true=>exact ⟨h.mem_set m1 m2,rfl⟩
  | false =>
   rw [hz] at he
   simp only [cond_false] at he ⊢
   cases hf:decide ((bufAt t k).length=t.depth) with
   | true=>rw [hf] at he;cases he
   | false =>
    have hf:=of_decide_eq_false hf
    have hbm:=h.put _ (show bufAt t k∈t.bufs by rw [bufAt_at];exact at_mem hk)
    refine ⟨⟨h.mem,by simpa using h.sz,fun b hb=>?_⟩,by simp⟩
    rcases List.mem_or_eq_of_mem_set hb with hb|rfl
    ·exact h.put b hb
    ·refine ⟨by simp only [List.length_append,List.length_cons,List.length_nil];have:=hbm.1;show (((bufAt t k).length+1:Nat):Int)≤t.depth;omega,fun p hp=>?_⟩
     rcases List.mem_append.1 hp with hp|hp
     ·exact hbm.2 p hp
     ·simp at hp
      subst hp
      have:=(mUse_ok hu).1
      exact this
theorem tsLocked_right {t:Tso} {k:Nat} {kd a x y:Int} (h:TsR t) (he:(tsLocked t k kd a x y).2.2=0):TsR (tsLocked t k kd a x y).1∧(tsLocked t k kd a x y).1.bufs.length=t.bufs.length:=by
 unfold tsLocked at *
 cases hb:decide ((bufAt t k).length=0) with
 | false=>rw [hb] at he;cases he
 | true =>
  rw [hb] at he
  cases hd:decide ((mLoad t.mem a).2=0) with
  | false=>rw [hd] at he;exact absurd he (of_decide_eq_false hd)
  | true =>
   have hu:=of_decide_eq_true hd
   rw [mLoad_two] at hu
   obtain ⟨m1,m2⟩:=mStore_right (v:=become kd (mLoad t.mem a).1 x y) h.mem hu
   exact ⟨h.mem_set m1 m2,rfl⟩
theorem setR_thR {t:Thr} (k v:Int) (h:ThR t):ThR (setR t k v):=⟨h.pc,h.fr,h.ll,h.back,h.left,h.st⟩
theorem pc_thR {t:Thr} {p:Int} (h:ThR t) (hp:0≤p∧p≤1000):ThR { t with pc:=p }:=⟨hp,h.fr,h.ll,h.back,h.left,h.st⟩
theorem frCall_rng (t:Thr) (to:Int):(frCall t to).2=0∨(1≤(frCall t to).2∧(frCall t to).2≤16):=by
 unfold frCall
 cases (!thRight t||(decide (t.pc=1000) || !inn to 0 1000)) with
 | true=>exact .inr (rng_c 1 rfl (by decide))
 | false=>cases decide (t.frames.length=6) with
  | true=>exact .inr (rng_c 13 rfl (by decide))
  | false=>exact .inl rfl
theorem frBack_rng (t:Thr):(frBack t).2=0∨(1≤(frBack t).2∧(frBack t).2≤16):=by
 unfold frBack
 cases (!thRight t) with
 | true=>exact .inr (rng_c 1 rfl (by decide))
 | false=>cases t.frames.getLast? with
  | none=>exact .inr (rng_c 8 rfl (by decide))
  | some f=>exact .inl rfl
theorem frCall_thR {t:Thr} {to:Int} (h:ThR t) (he:(frCall t to).2=0):ThR (frCall t to).1∧(frCall t to).1.left=t.left:=by
 unfold frCall at *
 cases hb:(!thRight t||(decide (t.pc=1000) || !inn to 0 1000)) with
 | true=>rw [hb] at he;cases he
 | false =>
  rw [hb] at he
  simp only [Bool.or_eq_false_iff,Bool.not_eq_false',decide_eq_false_iff_not,inn_iff] at hb
  cases h6:decide (t.frames.length=6) with
  | true=>rw [h6] at he;cases he
  | false =>
   have h6:=of_decide_eq_false h6
   have:=h.fr
   have hpc:=h.pc
   refine ⟨⟨hb.2.2,?_,h.ll,fun f hf=>?_,h.left,h.st⟩,rfl⟩
   ·show (t.frames++[_]).length≤6
    simp only [List.length_append,List.length_cons,List.length_nil];omega
   ·have hf:f∈t.frames++[_]:=hf
    rcases List.mem_append.1 hf with hf|hf
    ·exact h.back f hf
    ·simp at hf;subst hf
     show 0≤t.pc+1∧t.pc+1≤1000
     omega
theorem frBack_thR {t:Thr} (h:ThR t) (he:(frBack t).2=0):ThR (frBack t).1∧(frBack t).1.left=t.left:=by
 unfold frBack at *
 cases hb:(!thRight t) with
 | true=>rw [hb] at he;cases he
 | false =>
  rw [hb] at he
  cases hg:t.frames.getLast? with
  | none=>rw [hg] at he;cases he
  | some f =>
   have hf:f∈t.frames:=List.mem_of_getLast? hg
   refine ⟨⟨h.back f hf,?_,h.ll,fun g hg=>h.back g ((List.dropLast_sublist _).subset hg),h.left,h.st⟩,rfl⟩
   show t.frames.dropLast.length≤6
   rw [List.length_dropLast];have:=h.fr;omega
theorem loApply_rng (k:Int) (i:Ins) (t:Thr):(loApply k i t).2=0∨(1≤(loApply k i t).2∧(loApply k i t).2≤16):=by
 unfold loApply
 cases (decide (loReady t k=1)||decide (t.pc=1000)) with
 | true=>exact .inr (rng_c 1 rfl (by decide))
 | false =>
  cases hr:(!decide (loReady t k=0)) with
  | true =>
   rcases loReady_of t k with e|e|e
   ·rw [e];exact .inr (rng_c 1 rfl (by decide))
   ·rw [e];exact .inr (rng_c 9 rfl (by decide))
   ·rw [e.1] at hr;cases hr
  | false =>
   cases (!inn i.op 1 15) with
   | true=>exact .inr (rng_c 10 rfl (by decide))
   | false=>cases (!loMay i) with
    | true=>exact .inr (rng_c 3 rfl (by decide))
    | false=>cases decide (i.op=13) with
     | true=>exact frCall_rng t i.a
     | false=>cases decide (i.op=14) with
      | true=>exact frBack_rng t
      | false=>exact .inl rfl
theorem loMay_trg {i:Ins} (h:loMay i=true):(i.op=10→0≤i.a∧i.a≤1000)∧((i.op=11∨i.op=12)→0≤i.b∧i.b≤1000):=by
 unfold loMay at h
 rw [Bool.and_eq_true] at h
 have h2:=h.2
 refine ⟨fun e=>?_,fun e=>?_⟩
 ·rw [e] at h2
  have h2:inn i.a 0 1000=true:=h2
  exact inn_iff.1 h2
 ·rcases e with e|e
  all_goals rw [e] at h2
  all_goals (have h2:inn i.b 0 1000=true:=h2)
  all_goals exact inn_iff.1 h2
theorem loDo_thR {k:Int} {i:Ins} {t:Thr} (h:ThR t) (hm:loMay i=true) (hop:inn i.op 1 15=true):ThR (loDo k i t)∧(loDo k i t).left=t.left:=by
 obtain ⟨m1,m2⟩:=loMay_trg hm
 have hop:=inn_iff.1 hop
 unfold loDo
 split
 ·rename_i e
  exact ⟨pc_thR h (m1 (by omega)),rfl⟩
 ·rename_i e
  cases decide (rg t i.a=0) with
  | true=>exact ⟨pc_thR h (m2 (by omega)),rfl⟩
  | false=>exact ⟨h,rfl⟩
 ·rename_i e
  cases decide (rg t i.a=0) with
  | true=>exact ⟨h,rfl⟩
  | false=>exact ⟨pc_thR h (m2 (by omega)),rfl⟩
 ·exact ⟨setR_thR _ _ h,rfl⟩
theorem loApply_thR {k:Int} {i:Ins} {t:Thr} (h:ThR t) (he:(loApply k i t).2=0):ThR (loApply k i t).1∧(loApply k i t).1.left=t.left:=by
 unfold loApply at *
 cases h1:(decide (loReady t k=1)||decide (t.pc=1000)) with
 | true=>rw [h1] at he;cases he
 | false =>
  rw [h1] at he
  simp only [Bool.or_eq_false_iff,decide_eq_false_iff_not] at h1
  cases hr:(!decide (loReady t k=0)) with
  | true =>
   rw [hr] at he
   have he:loReady t k=0:=he
   rw [he] at hr;cases hr
  | false =>
   rw [hr] at he
   cases ho:(!inn i.op 1 15) with
   | true=>rw [ho] at he;cases he
   | false =>
    rw [ho] at he
    cases hm:(!loMay i) with
    | true=>rw [hm] at he;cases he
    | false =>
     rw [hm] at he
     cases h13:decide (i.op=13) with
     | true=>rw [h13] at he;exact frCall_thR h he
     | false =>
      rw [h13] at he
      cases h14:decide (i.op=14) with
      | true=>rw [h14] at he;exact frBack_thR h he
      | false =>
       have hpc:=h.pc
       exact loDo_thR (pc_thR h (show 0≤t.pc+1∧t.pc+1≤1000 by omega)) (by simpa using hm) (by simpa using ho)
theorem doN_rng (w:Wd) (k:Nat) (t:Thr) (i:Ins):(doN w k t i).2.2=0∨(1≤(doN w k t i).2.2∧(doN w k t i).2.2≤16):=by
 unfold doN
 split
 ·exact .inl rfl
 ·exact tsLoad_rng _ _ _
 ·exact tsStore_rng _ _ _ _
 ·exact .inl rfl
 ·exact tsLocked_rng _ _ _ _ _ _
 ·exact tsLocked_rng _ _ _ _ _ _
 ·exact tsLocked_rng _ _ _ _ _ _
 ·cases decide (0 < t.left.length)<;>exact .inl rfl
 ·exact .inl rfl
 ·exact mMark_rng _ _ _ _
 ·exact mMark_rng _ _ _ _
 ·exact .inl rfl
 ·exact .inr (rng_c 3 rfl (by decide))
 ·exact loApply_rng _ _ _
structure Kept (w:Wd) (r:Wd × Thr × Int):Prop where
 code:r.1.code=w.code
 thr:r.1.thr=w.thr
 tso:TsR r.1.tso
 bufs:r.1.tso.bufs.length=w.tso.bufs.length
 evs:r.1.evs.length≤w.evs.length+1
 thR:ThR r.2.1
 left:r.2.1.left.length=0∨r.2.1.left.length=w.tso.bufs.length
theorem doN_kept {w:Wd} {k:Nat} {t:Thr} {i:Ins} (h:TsR w.tso) (hk:k < w.tso.bufs.length) (ht:ThR t) (hl:t.left.length=0∨t.left.length=w.tso.bufs.length) (hpc:i.op.toNat=27∨t.pc < 1000) (h0:t.state=0) (he:(doN w k t i).2.2=0):Kept w (doN w k t i):=by
 have hp:=ht.pc
 have p1:i.op.toNat≠27→ThR (pc1 t):=fun h27=>pc_thR ht (by have:=hpc.resolve_left h27;omega)
 unfold doN at *
 split at he
 ·exact ⟨rfl,rfl,h,rfl,Nat.le_succ _,⟨ht.pc,ht.fr,ht.ll,ht.back,ht.left,.inl ⟨.inr rfl,by
   rcases ht.st with ⟨_,h⟩|⟨h2,h3,h4⟩
   ·exact h
   ·omega⟩⟩,hl⟩
 ·rename_i e;exact ⟨rfl,rfl,h,rfl,Nat.le_succ _,setR_thR _ _ (p1 (by omega)),hl⟩
 ·rename_i e
  obtain ⟨a,b⟩:=tsStore_right h hk he
  exact ⟨rfl,rfl,a,b,Nat.le_succ _,p1 (by omega),hl⟩
 ·rename_i e;exact ⟨rfl,rfl,h,rfl,Nat.le_succ _,p1 (by omega),hl⟩
 ·rename_i e
  obtain ⟨a,b⟩:=tsLocked_right h he
  exact ⟨rfl,rfl,a,b,Nat.le_succ _,setR_thR _ _ (p1 (by omega)),hl⟩
 ·rename_i e
  obtain ⟨a,b⟩:=tsLocked_right h he
  exact ⟨rfl,rfl,a,b,Nat.le_succ _,setR_thR _ _ (p1 (by omega)),hl⟩
 ·rename_i e
  obtain ⟨a,b⟩:=tsLocked_right h he
  exact ⟨rfl,rfl,a,b,Nat.le_succ _,setR_thR _ _ (p1 (by omega)),hl⟩
 ·rename_i e
  cases hz:decide (0 < t.left.length) with
  | true =>
   have q:=p1 (by omega)
   exact ⟨rfl,rfl,h,rfl,Nat.le_succ _,⟨q.pc,q.fr,Nat.zero_le _,q.back,fun n hn=>absurd hn List.not_mem_nil,q.st⟩,.inl rfl⟩
  | false =>
   have hlen:(lens w.tso.bufs).length=w.tso.bufs.length:=by unfold lens;simp
   have hs:=h.sz
   refine ⟨rfl,rfl,h,rfl,Nat.le_succ _,⟨ht.pc,ht.fr,?_,ht.back,fun n hn=>?_,ht.st⟩,.inr hlen⟩
   ·show (lens w.tso.bufs).length≤8
    omega
   ·have hn:n∈lens w.tso.bufs:=hn
    obtain ⟨b,hb,rfl⟩:=List.mem_map.1 hn
    have:=(h.put b hb).1
    omega
 ·rename_i e;exact ⟨rfl,rfl,h,rfl,Nat.le_succ _,p1 (by omega),hl⟩
 ·rename_i e
  obtain ⟨a,b⟩:=mMark_right h.mem (.inl rfl) he
  exact ⟨rfl,rfl,h.mem_set a b,rfl,Nat.le_succ _,p1 (by omega),hl⟩
 ·rename_i e
  obtain ⟨a,b⟩:=mMark_right h.mem (.inr rfl) he
  exact ⟨rfl,rfl,h.mem_set a b,rfl,Nat.le_succ _,p1 (by omega),hl⟩
 ·rename_i e;exact ⟨rfl,rfl,h,rfl,by simp,p1 (by omega),hl⟩
 ·cases he
 ·obtain ⟨a,b⟩:=loApply_thR ht he
  exact ⟨rfl,rfl,h,rfl,Nat.le_succ _,a,by show (loApply k i t).1.left.length=0∨_;rw [b];exact hl⟩
theorem instr_pc {w:Wd} {t:Thr} (hc:w.code.length≤1000):(instrAt w t).op.toNat=27∨t.pc < 1000:=by
 unfold instrAt
 cases hb:decide (t.pc < (w.code.length:Int)) with
 | true=>have:=of_decide_eq_true hb;exact .inr (by omega)
 | false=>exact .inl rfl
theorem setT_right {w:Wd} {k:Nat} {t:Thr} (h:WdR w) (ht:ThR t) (hl:t.left.length=0∨t.left.length=w.thr.length):WdR (setT w k t):=by
 have hlen:(w.thr.set k t).length=w.thr.length:=by simp
 refine ⟨h.code,h.tso,by show (w.thr.set k t).length=_;rw [hlen];exact h.len,fun x hx=>?_⟩
 have hx:x∈w.thr.set k t:=hx
 show _∧(_∨x.left.length=(w.thr.set k t).length)
 rw [hlen]
 rcases List.mem_or_eq_of_mem_set hx with hx|rfl
 ·exact h.thr x hx
 ·exact ⟨thRight_iff.2 ht,hl⟩
theorem fault_right {w:Wd} {k:Nat} {e:Int} (h:WdR w) (hk:k < w.thr.length) (he:1≤e∧e≤16):WdR (faultW w k e):=by
 have hm:=h.thr _ (show thrAt w k∈w.thr by rw [thrAt_at hk];exact at_mem hk)
 have ht:=thRight_iff.1 hm.1
 exact setT_right h ⟨ht.pc,ht.fr,ht.ll,ht.back,ht.left,.inr ⟨rfl,he⟩⟩ hm.2
theorem canW_state {w:Wd} {k:Nat} (h:canW w k=true):(thrAt w k).state=0:=by
 unfold canW at h
 rw [Bool.and_eq_true] at h
 exact of_decide_eq_true h.1
theorem doW_right {w:Wd} {k:Nat} (h:WdR w) (hk:k < w.thr.length) (hc:canW w k=true):WdR (doW w k)∧(doW w k).evs.length≤w.evs.length+1∧(doW w k).thr.length=w.thr.length∧(doW w k).code=w.code:=by
 have hm:=h.thr _ (show thrAt w k∈w.thr by rw [thrAt_at hk];exact at_mem hk)
 have ht:=thRight_iff.1 hm.1
 unfold doW doOp
 by_cases e:(doN w k (thrAt w k) (instrAt w (thrAt w k))).2.2=0
 ·have hkp:=doN_kept h.tso (by rw [←h.len];exact hk) ht (by rw [←h.len];exact hm.2) (instr_pc h.cl) (canW_state hc) e
  rw [decide_eq_true e,cond_true]
  generalize doN w k (thrAt w k) (instrAt w (thrAt w k))=r at *
  obtain ⟨w1,t1,e1⟩:=r
  obtain ⟨c1,c2,c3,c4,c5,c6,c7⟩:=hkp
  simp only at *
  have hw1:WdR w1:=⟨by rw [c1];exact h.code,c3,by rw [c2,c4];exact h.len,fun x hx=>by rw [c2] at hx ⊢;exact h.thr x hx⟩
  exact ⟨setT_right hw1 c6 (by rw [c2,h.len];exact c7),c5,by unfold setT;simp [c2],c1⟩
 ·rw [decide_eq_false e,cond_false]
  exact ⟨fault_right h hk ((doN_rng _ _ _ _).resolve_left e),Nat.le_succ _,by unfold faultW setT;simp,rfl⟩
theorem popW_right {w:Wd} {k:Nat} {p:Wput} {r:List Wput} (h:WdR w) (hk:k < w.thr.length) (hb:bufAt w.tso k=p::r):WdR (popW w k r):=by
 have hkb:k < w.tso.bufs.length:=by rw [←h.len];exact hk
 have hp:=h.tso.put _ (show bufAt w.tso k∈w.tso.bufs by rw [bufAt_at];exact at_mem hkb)
 rw [hb] at hp
 refine ⟨h.code,⟨h.tso.mem,by simpa [popW] using h.tso.sz,fun b hbm=>?_⟩,by simpa [popW] using h.len,h.thr⟩
 rcases List.mem_or_eq_of_mem_set hbm with hbm|rfl
 ·exact h.tso.put b hbm
 ·refine ⟨?_,fun q hq=>hp.2 q (List.mem_cons_of_mem _ hq)⟩
  have:=hp.1
  simp only [List.length_cons] at this
  show ((b.length:Nat):Int)≤w.tso.depth
  omega
theorem waned_right {w:Wd} {k:Nat} (h:WdR w):WdR (wanW w k):=by
 refine ⟨h.code,h.tso,by simpa [wanW] using h.len,fun x hx=>?_⟩
 have hx:x∈w.thr.map (waned k):=hx
 obtain ⟨t,ht,rfl⟩:=List.mem_map.1 hx
 obtain ⟨h1,h2⟩:=h.thr t ht
 have hr:=thRight_iff.1 h1
 have hlen:(wanW w k).thr.length=w.thr.length:=by simp [wanW]
 rw [hlen]
 unfold waned
 cases hz:decide (0 < t.left.length) with
 | false=>exact ⟨h1,h2⟩
 | true =>
  refine ⟨thRight_iff.2 ⟨hr.pc,hr.fr,by show (t.left.set _ _).length≤8;rw [List.length_set];exact hr.ll,hr.back,fun n hn=>?_,hr.st⟩,by simpa using h2⟩
  have hn:n∈t.left.set k (max (g0 t.left k-1) 0):=hn
  rcases List.mem_or_eq_of_mem_set hn with hn|rfl
  ·exact hr.left n hn
  ·by_cases hk:k < t.left.length
   ·have:=hr.left (g0 t.left k) (by unfold g0;rw [List.getD_eq_getElem?_getD,List.getElem?_eq_getElem hk];exact List.getElem_mem hk)
    omega
   ·have:g0 t.left k=0:=by unfold g0;rw [List.getD_eq_getElem?_getD,List.getElem?_eq_none (by omega)];rfl
    omega
theorem memW_right {w:Wd} {m:Mem} (h:WdR w) (h1:mRight m=true) (h2:m.words.length=w.tso.mem.words.length):WdR (memW w m):=⟨h.code,h.tso.mem_set h1 h2,h.len,h.thr⟩
theorem flushD_right {w:Wd} {k:Nat} {p:Wput} {r:List Wput} (h:WdR w) (hk:k < w.thr.length) (hb:bufAt w.tso k=p::r):WdR (flushD w k p r)∧(flushD w k p r).evs=w.evs∧(flushD w k p r).thr.length=w.thr.length∧(flushD w k p r).code=w.code:=by
 have hp:=popW_right h hk hb
 rw [flushD_eq]
 cases hd:decide ((mStore w.tso.mem p.loc p.val).2=0) with
 | true =>
  have hu:=of_decide_eq_true hd
  rw [mStore_two] at hu
  obtain ⟨m1,m2⟩:=mStore_right (v:=p.val) h.tso.mem hu
  exact ⟨waned_right (memW_right hp m1 m2),rfl,by simp [wanW,memW,popW],rfl⟩
 | false =>
  have hu:=of_decide_eq_false hd
  rw [mStore_two] at hu
  cases hs:decide ((thrAt w k).state=2) with
  | true=>exact ⟨waned_right hp,rfl,by simp [wanW,popW],rfl⟩
  | false =>
   have:=fault_right (k:=k) (e:=(mStore w.tso.mem p.loc p.val).2) hp hk (by rw [mStore_two];exact (mUse_rng _ _).resolve_left hu)
   exact ⟨waned_right this,rfl,by simp [wanW,popW,setT],rfl⟩
end Go.AL
end
section
set_option maxRecDepth 100000
namespace Go.AL
open Go Go.Proofs
attribute [local irreducible] J
theorem step_all (w:Wd) (k:Int) (h:WdR w) (he:w.evs.length≤1000000):ACalls Tryz.prog 93 [encWd w,iv k] [] (one (.tup [encWd (stepW w k).1,iv (stepW w k).2]) []):=by
 unfold stepW
 rw [wRight_iff.2 h]
 cases hk:inT w k with
 | false=>exact step_out w k h hk
 | true =>
  obtain ⟨q,rfl,hq⟩:=inT_nat hk
  rw [Int.toNat_natCast]
  cases hc:canW w q with
  | false=>exact step_cannot w q h hq hc
  | true=>exact step_ok w q h hq hc he
theorem flush_all (w:Wd) (k:Int) (h:WdR w):ACalls Tryz.prog 94 [encWd w,iv k] [] (one (.tup [encWd (flushW w k).1,iv (flushW w k).2]) []):=by
 unfold flushW
 rw [wRight_iff.2 h]
 cases hk:inT w k with
 | false=>exact flush_out w k h hk
 | true =>
  obtain ⟨q,rfl,hq⟩:=inT_nat hk
  rw [Int.toNat_natCast]
  cases hb:bufAt w.tso q with
  | nil=>exact flush_none w q h hq hb
  | cons p r=>exact flush_ok w q h hq hb
def xC (w:Wd) (n:Nat):List AVal :=
 [.sl (w.code.map encIns),.sl (w.tso.mem.words.map iv),.sl (w.tso.mem.tags.map iv),iv w.tso.depth,.sl (w.tso.bufs.map encBuf),.sl (w.thr.map encThr),.sl (w.evs.map encEvt),iv (n:Int)]
def xH (w:Wd) (n:Nat):List AObj:=[.box 100 (xC w n)]
theorem ok_no (w w1:Wd) (n:Nat) (e:Int) (he:e≠0):ACalls Tryz.prog 92 [.ptr 0 0,encWd w1,iv e] (xH w n) (one (bv false) (xH w n)):=by
 have h:(e != 0)=true:=by rw [bne_iff_ne];exact he
 unfold encWd wCells ivs xH xC
 refine jC Tryz.func92 Tryz.ntmps92 (fun w0 β0 ext hβ=>?_)
 repeat (first|refine jS ?_|refine jD ?_|refine jB ?_)
 rw [h]
 repeat (first|refine jS ?_|refine jD ?_|refine jB ?_)
 exact jR
theorem ok_yes (w w1:Wd) (n:Nat) (hn:n≤1000000000):ACalls Tryz.prog 92 [.ptr 0 0,encWd w1,iv 0] (xH w n) (one (bv true) (xH w1 (n+1))):=by
 have h:IntKind.i64.wrap ((n:Int)+1)=((n+1:Nat):Int):=by rw [wrap_id]<;>omega
 unfold encWd wCells ivs xH xC
 refine jC Tryz.func92 Tryz.ntmps92 (fun w0 β0 ext hβ=>?_)
 repeat (first|refine jS ?_|refine jD ?_|refine jB ?_)
 rw [h]
 repeat (first|refine jS ?_|refine jD ?_|refine jB ?_)
 exact jR
def cntB (n:Nat) (b:Bool):Nat:=cond b (n+1) n
theorem xstep_ok (w:Wd) (n:Nat) (k:Int) (h:WdR w) (he:w.evs.length≤1000000) (hn:n≤1000000000) :
  ACalls Tryz.prog 48 [.ptr 0 0,iv k] (xH w n) (one (bv (actW w ⟨0,k⟩).2) (xH (actW w ⟨0,k⟩).1 (cntB n (actW w ⟨0,k⟩).2))):=by
 have h1:=step_all w k h he
 have ea:actW w ⟨0,k⟩=cond (decide ((stepW w k).2=0)) ((stepW w k).1,true) (w,false):=rfl
 rw [ea]
 generalize stepW w k=r at *
 obtain ⟨w1,e⟩:=r
 simp only at *
 by_cases h0:e=0
 ·subst h0
  have h2:=ok_yes w w1 n hn
  simp only [decide_true,cond_true,cntB]
  unfold encWd wCells ivs xH xC at *
  refine jC Tryz.func48 Tryz.ntmps48 (fun w0 β0 ext hβ=>?_)
  repeat (first|refine jS ?_|refine jD ?_|refine jB ?_|refine jV h1 ?_)
  refine jBb [0] h2 ?_
  repeat (first|refine jS ?_|refine jD ?_|refine jB ?_)
  exact jR
 ·have h2:=ok_no w w1 n e h0
  rw [decide_eq_false h0]
  simp only [cond_false,cntB]
  unfold encWd wCells ivs xH xC at *
  refine jC Tryz.func48 Tryz.ntmps48 (fun w0 β0 ext hβ=>?_)
  repeat (first|refine jS ?_|refine jD ?_|refine jB ?_|refine jV h1 ?_)
  refine jBb [0] h2 ?_
  repeat (first|refine jS ?_|refine jD ?_|refine jB ?_)
  exact jR
theorem xflush_ok (w:Wd) (n:Nat) (k:Int) (h:WdR w) (hn:n≤1000000000) :
  ACalls Tryz.prog 49 [.ptr 0 0,iv k] (xH w n) (one (bv (actW w ⟨1,k⟩).2) (xH (actW w ⟨1,k⟩).1 (cntB n (actW w ⟨1,k⟩).2))):=by
 have h1:=flush_all w k h
 have ea:actW w ⟨1,k⟩=cond (decide ((flushW w k).2=0)) ((flushW w k).1,true) (w,false):=rfl
 rw [ea]
 generalize flushW w k=r at *
 obtain ⟨w1,e⟩:=r
 simp only at *
 by_cases h0:e=0
 ·subst h0
  have h2:=ok_yes w w1 n hn
  simp only [decide_true,cond_true,cntB]
  unfold encWd wCells ivs xH xC at *
  refine jC Tryz.func49 Tryz.ntmps49 (fun w0 β0 ext hβ=>?_)
  repeat (first|refine jS ?_|refine jD ?_|refine jB ?_|refine jV h1 ?_)
  refine jBb [0] h2 ?_
  repeat (first|refine jS ?_|refine jD ?_|refine jB ?_)
  exact jR
 ·have h2:=ok_no w w1 n e h0
  rw [decide_eq_false h0]
  simp only [cond_false,cntB]
  unfold encWd wCells ivs xH xC at *
  refine jC Tryz.func49 Tryz.ntmps49 (fun w0 β0 ext hβ=>?_)
  repeat (first|refine jS ?_|refine jD ?_|refine jB ?_|refine jV h1 ?_)
  refine jBb [0] h2 ?_
  repeat (first|refine jS ?_|refine jD ?_|refine jB ?_)
  exact jR
def encAct (a:Act):AVal:=.agg [iv a.kind,iv a.who]
theorem act_ok (w:Wd) (n:Nat) (a:Act) (h:WdR w) (he:w.evs.length≤1000000) (hn:n≤1000000000) :
  ACalls Tryz.prog 53 [.ptr 0 0,encAct a] (xH w n) (one (bv (actW w a).2) (xH (actW w a).1 (cntB n (actW w a).2))):=by
 obtain ⟨kd,k⟩:=a
 unfold encAct
 simp only
 by_cases h0:kd=0
 ·subst h0
  have h1:=xstep_ok w n k h he hn
  unfold xH xC at *
  refine jC Tryz.func53 Tryz.ntmps53 (fun w0 β0 ext hβ=>?_)
  repeat (first|refine jS ?_|refine jB ?_)
  refine jdrawPT [(0,.p),(1,.r),(2,.p),(3,.p),(4,.p),(5,.r),(6,.p),(7,.p),(8,.p),(9,.p),(10,.r),(11,.p),(12,.r),(13,.p),(14,.r),(15,.m),(16,.p),(17,.p)] rfl (by kernel_rfl) ?_
  repeat (first|refine jS ?_|refine jD ?_|refine jB ?_|refine jo rfl rfl (index_arr rfl rfl rfl rfl rfl (by decide) (by decide)) rfl rfl ?_)
  refine jBb [0] h1 ?_
  repeat (first|refine jS ?_|refine jD ?_|refine jB ?_)
  exact jR
 ·by_cases h1:kd=1
  ·subst h1
   have h1:=xflush_ok w n k h hn
   unfold xH xC at *
   refine jC Tryz.func53 Tryz.ntmps53 (fun w0 β0 ext hβ=>?_)
   repeat (first|refine jS ?_|refine jB ?_)
   refine jdrawPT [(0,.p),(1,.r),(2,.p),(3,.p),(4,.p),(5,.r),(6,.p),(7,.p),(8,.p),(9,.p),(10,.r),(11,.p),(12,.r),(13,.p),(14,.r),(15,.m),(16,.p),(17,.p)] rfl (by kernel_rfl) ?_
   repeat (first|refine jS ?_|refine jD ?_|refine jB ?_|refine jo rfl rfl (index_arr rfl rfl rfl rfl rfl (by decide) (by decide)) rfl rfl ?_)
   refine jBb [0] h1 ?_
   repeat (first|refine jS ?_|refine jD ?_|refine jB ?_)
   exact jR
  ·have e:actW w ⟨kd,k⟩=(w,false):=by
    unfold actW
    split
    ·rename_i e;exact absurd e h0
    ·rename_i e;exact absurd e h1
    ·rfl
   rw [e]
   simp only [cntB,cond_false]
   unfold xH xC
   by_cases h2:kd≥0
   ·have e1:decide (kd≥0)=true:=decide_eq_true h2
    have e2:decide (kd < 2)=false:=decide_eq_false (by omega)
    refine jC Tryz.func53 Tryz.ntmps53 (fun w0 β0 ext hβ=>?_)
    repeat (first|refine jS ?_|refine jD ?_|refine jB ?_)
    rw [e1]
    repeat (first|refine jS ?_|refine jD ?_|refine jB ?_)
    rw [e2]
    repeat (first|refine jS ?_|refine jD ?_|refine jB ?_)
    exact jR
   ·have e1:decide (kd≥0)=false:=decide_eq_false h2
    refine jC Tryz.func53 Tryz.ntmps53 (fun w0 β0 ext hβ=>?_)
    repeat (first|refine jS ?_|refine jD ?_|refine jB ?_)
    rw [e1]
    repeat (first|refine jS ?_|refine jD ?_|refine jB ?_)
    exact jR
theorem actW_right {w:Wd} (a:Act) (h:WdR w):WdR (actW w a).1∧(actW w a).1.evs.length≤w.evs.length+1∧(actW w a).1.thr.length=w.thr.length∧(actW w a).1.code=w.code:=by
 unfold actW
 split
 ·unfold stepW
  rw [wRight_iff.2 h]
  cases hk:inT w a.who with
  | false=>exact ⟨h,Nat.le_succ _,rfl,rfl⟩
  | true =>
   obtain ⟨q,e,hq⟩:=inT_nat hk
   rw [e,Int.toNat_natCast]
   cases hc:canW w q with
   | false=>exact ⟨h,Nat.le_succ _,rfl,rfl⟩
   | true=>exact doW_right h hq hc
 ·unfold flushW
  rw [wRight_iff.2 h]
  cases hk:inT w a.who with
  | false=>exact ⟨h,Nat.le_succ _,rfl,rfl⟩
  | true =>
   obtain ⟨q,e,hq⟩:=inT_nat hk
   rw [e,Int.toNat_natCast]
   cases hb:bufAt w.tso q with
   | nil=>exact ⟨h,Nat.le_succ _,rfl,rfl⟩
   | cons p r =>
    obtain ⟨a,b,c⟩:=flushD_right h hq hb
    exact ⟨a,by show (flushD w q p r).evs.length≤_;rw [b];exact Nat.le_succ _,c⟩
 ·exact ⟨h,Nat.le_succ _,rfl,rfl⟩
end Go.AL
end
section
set_option maxRecDepth 100000
namespace Go.AL
open Go Go.Proofs
attribute [local irreducible] J
theorem right_yes (w:Wd) (h:WdR w):ACalls Tryz.prog 46 [encWd w] [] (one (bv true) []):=by
 have:=wd_right w h.size
 rwa [wRight_iff.2 h] at this
theorem runW_right {w:Wd} (h:WdR w):∀ (l:List Act) (n:Nat),WdR (l.foldl (fun s a=>((actW s.1 a).1,cond (actW s.1 a).2 (s.2+1) s.2)) (w,n)).1∧(l.foldl (fun s a=>((actW s.1 a).1,cond (actW s.1 a).2 (s.2+1) s.2)) (w,n)).1.evs.length≤w.evs.length+l.length ∧
  (l.foldl (fun s a=>((actW s.1 a).1,cond (actW s.1 a).2 (s.2+1) s.2)) (w,n)).2≤n+l.length:=by
 intro l
 induction l generalizing w with
 | nil=>intro n;exact ⟨h,Nat.le_refl _,Nat.le_refl _⟩
 | cons a l ih =>
  intro n
  obtain ⟨a1,a2,_⟩:=actW_right a h
  obtain ⟨b1,b2,b3⟩:=ih a1 (cond (actW w a).2 (n+1) n)
  refine ⟨b1,?_,?_⟩
  ·simp only [List.foldl_cons,List.length_cons];omega
  ·simp only [List.foldl_cons,List.length_cons]
   have:cond (actW w a).2 (n+1) n≤n+1:=by cases (actW w a).2<;>simp
   omega
theorem run_succ (w:Wd) (l:List Act) (q:Nat) (hq:q < l.length):runW w (l.take (q+1))=((actW (runW w (l.take q)).1 (at' l (q:Int))).1,cntB (runW w (l.take q)).2 (actW (runW w (l.take q)).1 (at' l (q:Int))).2):=by
 unfold runW
 rw [at_nat l q hq,List.take_add_one,List.getElem?_eq_getElem hq,List.foldl_append]
 rfl
def w0C:List AVal:=[.sl [],.sl [],.sl [],iv 0,.sl [],.sl [],.sl []]
theorem run_ok (w:Wd) (l:List Act) (h:WdR w) (he:w.evs.length≤900000) (hl:l.length≤100000):ACalls Tryz.prog 17 [encWd w,.sl (l.map encAct)] [] (one (.tup [encWd (runW w l).1,iv ((runW w l).2:Int),iv 0]) []):=by
 have h1:=right_yes w h
 unfold encWd wCells ivs at *
 refine jC Tryz.func17 Tryz.ntmps17 (fun w0 β0 ext hβ=>?_)
 repeat (first|refine jS ?_|refine jD ?_|refine jB ?_|refine jV h1 ?_)
 refine jfin 3 [2,4,5,6,7,17,18,19] true rfl rfl rfl (by show β0.length≤3;rw [hβ];exact Nat.zero_le _) ?_
 refine jloop 3 (fun q:Nat=>q≤l.length) [2,4,5,6,7,17,18,19] (fun q=>[.ptr 0 0,.ptr 1 0,iv 0,iv 0,.ptr 2 0,.sl (l.map encAct),.v (.int .i64 ((l.map encAct).length:Int)),.v (.int .i64 (q:Int))])
  (fun q=>[.box 33 (wCells w),.box 33 w0C,.box 100 (xC (runW w (l.take q)).1 (runW w (l.take q)).2)]) (fun q=>l.length-q) 0 (by show β0.length≤3;rw [hβ];exact Nat.zero_le _) (Nat.zero_le _) rfl rfl (fun q hq=>?_)
 obtain ⟨b1,b2,b3⟩:=runW_right h (l.take q) 0
 rw [show (l.take q).foldl (fun s a=>((actW s.1 a).1,cond (actW s.1 a).2 (s.2+1) s.2)) (w,0)=runW w (l.take q) from rfl] at b1 b2 b3
 rw [List.length_take] at b2 b3
 unfold wCells ivs xC w0C
 repeat (first|refine jS ?_|refine jD ?_|refine jB ?_)
 refine jc rfl rfl rfl (fun h=>?_) (fun h=>?_)
 ·have h:=of_decide_eq_true h
  rw [List.length_map] at h
  have hq2:q < l.length:=by omega
  have hs:=run_succ w l q hq2
  have hidx:IntKind.i64.wrap ((q:Int)+1)=((q+1:Nat):Int):=idx_next hq2 (by omega)
  have ha:=act_ok (runW w (l.take q)).1 (runW w (l.take q)).2 (at' l (q:Int)) b1 (by omega) (by omega)
  generalize runW w (l.take q)=r at *
  unfold encAct at ha
  unfold xH xC at ha
  repeat (first|refine jS ?_|refine jD ?_|refine jB ?_|refine jI (Int.natCast_nonneg q) h ?_)
  refine jBb [2] ha ?_
  repeat (first|refine jS ?_|refine jD ?_|refine jB ?_)
  refine jnext (q+1) hq2 (by omega) rfl rfl rfl ?_ ?_
  ·rw [hidx];rfl
  ·rw [hs];rfl
 ·have h:=of_decide_eq_false h
  rw [List.length_map] at h
  have:q=l.length:=by omega
  subst this
  rw [List.take_length]
  generalize runW w l=r at *
  repeat (first|refine jS ?_|refine jB ?_)
  refine jmid [4,5,6] [.ptr 1 0,iv (r.2:Int),iv 0] [.box 33 (wCells w),.box 33 (wCells r.1),.box 100 (xC r.1 r.2)] ?_ ?_
  ·unfold wCells ivs xC
   generalize w.code.map encIns=d1
   generalize w.tso.mem.words.map iv=d2
   generalize w.tso.mem.tags.map iv=d3
   generalize w.tso.bufs.map encBuf=d4
   generalize w.thr.map encThr=d5
   generalize w.evs.map encEvt=d6
   refine jorders (Ls:=[[0,1,2,3,4,5,6,7,8,9,10],[0,1,2,3,4,5,6,8,7,9,10],[0,1,2,3,4,5,8,6,7,9,10],[0,1,2,3,4,8,5,6,7,9,10],[0,1,2,3,8,4,5,6,7,9,10],[0,1,2,4,3,5,6,7,8,9,10],[0,1,2,4,3,5,6,8,7,9,10],[0,1,2,4,3,5,8,6,7,9,10],[0,1,2,4,3,8,5,6,7,9,10],[0,1,2,4,5,3,6,7,8,9,10],[0,1,2,4,5,3,6,8,7,9,10],[0,1,2,4,5,3,8,6,7,9,10],[0,1,2,4,5,6,3,7,8,9,10],[0,1,2,4,5,6,3,8,7,9,10],[0,1,2,4,5,6,7,3,8,9,10],[0,1,4,2,3,5,6,7,8,9,10],[0,1,4,2,3,5,6,8,7,9,10],[0,1,4,2,3,5,8,6,7,9,10],[0,1,4,2,3,8,5,6,7,9,10],[0,1,4,2,5,3,6,7,8,9,10],[0,1,4,2,5,3,6,8,7,9,10],[0,1,4,2,5,3,8,6,7,9,10],[0,1,4,2,5,6,3,7,8,9,10],[0,1,4,2,5,6,3,8,7,9,10],[0,1,4,2,5,6,7,3,8,9,10],[0,1,4,5,2,3,6,7,8,9,10],[0,1,4,5,2,3,6,8,7,9,10],[0,1,4,5,2,3,8,6,7,9,10],[0,1,4,5,2,6,3,7,8,9,10],[0,1,4,5,2,6,3,8,7,9,10],[0,1,4,5,2,6,7,3,8,9,10],[0,1,4,5,6,2,3,7,8,9,10],[0,1,4,5,6,2,3,8,7,9,10],[0,1,4,5,6,2,7,3,8,9,10],[0,1,4,5,6,7,2,3,8,9,10],[0,4,1,2,3,5,6,7,8,9,10],[0,4,1,2,3,5,6,8,7,9,10],[0,4,1,2,3,5,8,6,7,9,10],[0,4,1,2,3,8,5,6,7,9,10],[0,4,1,2,5,3,6,7,8,9,10],[0,4,1,2,5,3,6,8,7,9,10],[0,4,1,2,5,3,8,6,7,9,10],[0,4,1,2,5,6,3,7,8,9,10],[0,4,1,2,5,6,3,8,7,9,10],[0,4,1,2,5,6,7,3,8,9,10],[0,4,1,5,2,3,6,7,8,9,10],[0,4,1,5,2,3,6,8,7,9,10],[0,4,1,5,2,3,8,6,7,9,10],[0,4,1,5,2,6,3,7,8,9,10],[0,4,1,5,2,6,3,8,7,9,10],[0,4,1,5,2,6,7,3,8,9,10],[0,4,1,5,6,2,3,7,8,9,10],[0,4,1,5,6,2,3,8,7,9,10],[0,4,1,5,6,2,7,3,8,9,10],[0,4,1,5,6,7,2,3,8,9,10],[0,4,5,1,2,3,6,7,8,9,10],[0,4,5,1,2,3,6,8,7,9,10],[0,4,5,1,2,3,8,6,7,9,10],[0,4,5,1,2,6,3,7,8,9,10],[0,4,5,1,2,6,3,8,7,9,10],[0,4,5,1,2,6,7,3,8,9,10],[0,4,5,1,6,2,3,7,8,9,10],[0,4,5,1,6,2,3,8,7,9,10],[0,4,5,1,6,2,7,3,8,9,10],[0,4,5,1,6,7,2,3,8,9,10],[0,4,5,6,1,2,3,7,8,9,10],[0,4,5,6,1,2,3,8,7,9,10],[0,4,5,6,1,2,7,3,8,9,10],[0,4,5,6,1,7,2,3,8,9,10],[0,4,5,6,7,1,2,3,8,9,10],[4,0,1,2,3,5,6,7,8,9,10],[4,0,1,2,3,5,6,8,7,9,10],[4,0,1,2,3,5,8,6,7,9,10],[4,0,1,2,3,8,5,6,7,9,10],[4,0,1,2,5,3,6,7,8,9,10],[4,0,1,2,5,3,6,8,7,9,10],[4,0,1,2,5,3,8,6,7,9,10],[4,0,1,2,5,6,3,7,8,9,10],[4,0,1,2,5,6,3,8,7,9,10],[4,0,1,2,5,6,7,3,8,9,10],[4,0,1,5,2,3,6,7,8,9,10],[4,0,1,5,2,3,6,8,7,9,10],[4,0,1,5,2,3,8,6,7,9,10],[4,0,1,5,2,6,3,7,8,9,10],[4,0,1,5,2,6,3,8,7,9,10],[4,0,1,5,2,6,7,3,8,9,10],[4,0,1,5,6,2,3,7,8,9,10],[4,0,1,5,6,2,3,8,7,9,10],[4,0,1,5,6,2,7,3,8,9,10],[4,0,1,5,6,7,2,3,8,9,10],[4,0,5,1,2,3,6,7,8,9,10],[4,0,5,1,2,3,6,8,7,9,10],[4,0,5,1,2,3,8,6,7,9,10],[4,0,5,1,2,6,3,7,8,9,10],[4,0,5,1,2,6,3,8,7,9,10],[4,0,5,1,2,6,7,3,8,9,10],[4,0,5,1,6,2,3,7,8,9,10],[4,0,5,1,6,2,3,8,7,9,10],[4,0,5,1,6,2,7,3,8,9,10],[4,0,5,1,6,7,2,3,8,9,10],[4,0,5,6,1,2,3,7,8,9,10],[4,0,5,6,1,2,3,8,7,9,10],[4,0,5,6,1,2,7,3,8,9,10],[4,0,5,6,1,7,2,3,8,9,10],[4,0,5,6,7,1,2,3,8,9,10],[4,5,0,1,2,3,6,7,8,9,10],[4,5,0,1,2,3,6,8,7,9,10],[4,5,0,1,2,3,8,6,7,9,10],[4,5,0,1,2,6,3,7,8,9,10],[4,5,0,1,2,6,3,8,7,9,10],[4,5,0,1,2,6,7,3,8,9,10],[4,5,0,1,6,2,3,7,8,9,10],[4,5,0,1,6,2,3,8,7,9,10],[4,5,0,1,6,2,7,3,8,9,10],[4,5,0,1,6,7,2,3,8,9,10],[4,5,0,6,1,2,3,7,8,9,10],[4,5,0,6,1,2,3,8,7,9,10],[4,5,0,6,1,2,7,3,8,9,10],[4,5,0,6,1,7,2,3,8,9,10],[4,5,0,6,7,1,2,3,8,9,10],[4,5,6,0,1,2,3,7,8,9,10],[4,5,6,0,1,2,3,8,7,9,10],[4,5,6,0,1,2,7,3,8,9,10],[4,5,6,0,1,7,2,3,8,9,10],[4,5,6,0,7,1,2,3,8,9,10],[4,5,6,7,0,1,2,3,8,9,10]]) (by kernel_rfl) ?_
   repeat' (first|exact List.forall_mem_nil _|refine List.forall_mem_cons.2 ⟨?_,?_⟩)
   all_goals (
    repeat (first|refine jS ?_|refine jD ?_|refine jB ?_)
   )
   all_goals exact jmeet rfl rfl
  ·unfold wCells ivs xC
   repeat (first|refine jS ?_|refine jD ?_|refine jB ?_)
   exact jR
end Go.AL
end
section
set_option maxRecDepth 100000
namespace Go.AL
open Go Go.Proofs
attribute [local irreducible] J
theorem idle_iff {w:Wd}:idleW w=true↔∀ k,k < w.tso.bufs.length→(canW w k||decide (0 < (bufAt w.tso k).length))=false:=by
 unfold idleW
 rw [List.all_eq_true]
 constructor
 ·intro h k hk
  have:=h k (List.mem_range.2 hk)
  simp only [Bool.and_eq_true,Bool.not_eq_true',decide_eq_true_eq] at this
  rw [this.1,this.2];rfl
 ·intro h k hk
  have:=h k (List.mem_range.1 hk)
  simp only [Bool.or_eq_false_iff,decide_eq_false_iff_not] at this
  simp only [Bool.and_eq_true,Bool.not_eq_true',decide_eq_true_eq]
  exact ⟨this.1,by omega⟩
theorem sidle_ok (w:Wd) (h:WdR w):ACalls Tryz.prog 47 [encWd w] [] (one (bv (idleW w)) []):=by
 have hb8:=h.tso.sz
 have h1:=fun k (hk:k < w.tso.bufs.length)=>cans_ok w k h (by rw [h.len];exact hk)
 unfold encWd wCells ivs at *
 refine jC Tryz.func47 Tryz.ntmps47 (fun w0 β0 ext hβ=>?_)
 repeat (first|refine jS ?_|refine jD ?_|refine jB ?_)
 refine jloop 1 (fun q:Nat=>q≤w.tso.bufs.length∧∀ k,k < q→(canW w k||decide (0 < (bufAt w.tso k).length))=false) [1,2,9,10,11] (fun q=>[.ptr 0 0,bv false,.sl (w.tso.bufs.map encBuf),.v (.int .i64 ((w.tso.bufs.map encBuf).length:Int)),.v (.int .i64 (q:Int))])
  (fun q=>[.box 33 (wCells w)]) (fun q=>w.tso.bufs.length-q) 0 (by show β0.length≤1;rw [hβ];exact Nat.zero_le _) ⟨Nat.zero_le _,fun k hk=>absurd hk (Nat.not_lt_zero _)⟩ rfl rfl (fun q hq=>?_)
 obtain ⟨hq,hok⟩:=hq
 unfold wCells ivs
 repeat (first|refine jS ?_|refine jD ?_|refine jB ?_)
 refine jc rfl rfl rfl (fun h=>?_) (fun h=>?_)
 ·have h:=of_decide_eq_true h
  rw [List.length_map] at h
  have hq2:q < w.tso.bufs.length:=by omega
  have h1:=h1 q hq2
  have hidx:IntKind.i64.wrap ((q:Int)+1)=((q+1:Nat):Int):=idx_next hq2 (by omega)
  have hnx:(canW w q||decide (0 < (bufAt w.tso q).length))=false→∀ k,k < q+1→(canW w k||decide (0 < (bufAt w.tso k).length))=false:=fun hb k hk=>by
   by_cases e:k=q
   ·subst e;exact hb
   ·exact hok k (by omega)
  have hno:(canW w q||decide (0 < (bufAt w.tso q).length))=true→idleW w=false:=fun hb=>by
   cases hi:idleW w with
   | false=>rfl
   | true=>have:=idle_iff.1 hi q hq2;rw [hb] at this;cases this
  have hd:decide ((((at' w.tso.bufs (q:Int)).map encPut).length:Int) > 0)=decide (0 < (bufAt w.tso q).length):=by rw [List.length_map,bufAt_at];exact decide_eq_decide.2 (by omega)
  generalize canW w q=b at *
  repeat (first|refine jS ?_|refine jD ?_|refine jB ?_|refine jI (Int.natCast_nonneg q) h ?_|refine jV h1 ?_)
  cases b with
  | true =>
   rw [hno rfl]
   repeat (first|refine jS ?_|refine jD ?_|refine jB ?_)
   exact jR
  | false =>
   repeat (first|refine jS ?_|refine jD ?_|refine jB ?_)
   rw [hd]
   cases hb:decide (0 < (bufAt w.tso q).length) with
   | true =>
    rw [hb] at hno
    rw [hno rfl]
    repeat (first|refine jS ?_|refine jD ?_|refine jB ?_)
    exact jR
   | false =>
    rw [hb] at hnx
    repeat (first|refine jS ?_|refine jD ?_|refine jB ?_)
    refine jnext (q+1) ⟨hq2,hnx rfl⟩ (by omega) rfl rfl rfl ?_ rfl
    rw [hidx];rfl
 ·have h:=of_decide_eq_false h
  rw [List.length_map] at h
  rw [idle_iff.2 fun k hk=>hok k (by omega)]
  repeat (first|refine jS ?_|refine jD ?_|refine jB ?_)
  exact jR
def rdP (s:Wd × Nat) (k:Nat):Wd × Nat:=(List.range k).foldl (fun (s:Wd × Nat) (i:Nat)=>((actW (actW s.1 ⟨0,i⟩).1 ⟨1,i⟩).1,cntB (cntB s.2 (actW s.1 ⟨0,i⟩).2) (actW (actW s.1 ⟨0,i⟩).1 ⟨1,i⟩).2)) s
theorem rdP_succ (s:Wd × Nat) (k:Nat):rdP s (k+1)=((actW (actW (rdP s k).1 ⟨0,k⟩).1 ⟨1,k⟩).1,cntB (cntB (rdP s k).2 (actW (rdP s k).1 ⟨0,k⟩).2) (actW (actW (rdP s k).1 ⟨0,k⟩).1 ⟨1,k⟩).2):=by
 unfold rdP
 rw [List.range_succ,List.foldl_append]
 rfl
theorem rdP_round (w:Wd) (n:Nat):(rdP (w,n) w.thr.length).1=roundW w:=by
 unfold rdP roundW
 generalize List.range w.thr.length=l
 generalize hs:(w,n)=s
 have e:w=s.1:=by rw [←hs]
 rw [e]
 clear hs e
 induction l generalizing s with
 | nil=>rfl
 | cons a l ih=>exact ih _
theorem cntB_le (n:Nat) (b:Bool):cntB n b≤n+1:=by cases b<;>simp [cntB]
theorem rdP_right {s:Wd × Nat} (h:WdR s.1):∀ k,WdR (rdP s k).1∧(rdP s k).1.evs.length≤s.1.evs.length+2*k∧(rdP s k).2≤s.2+2*k∧(rdP s k).1.thr.length=s.1.thr.length∧(rdP s k).1.code=s.1.code
 | 0=>⟨h,Nat.le_refl _,Nat.le_refl _,rfl,rfl⟩
 | k+1=>by
  obtain ⟨a1,a2,a3,a4,a5⟩:=rdP_right h k
  rw [rdP_succ]
  generalize rdP s k=r at *
  obtain ⟨b1,b2,b3,b4⟩:=actW_right ⟨0,k⟩ a1
  obtain ⟨c1,c2,c3,c4⟩:=actW_right ⟨1,k⟩ b1
  have d1:=cntB_le r.2 (actW r.1 ⟨0,k⟩).2
  have d2:=cntB_le (cntB r.2 (actW r.1 ⟨0,k⟩).2) (actW (actW r.1 ⟨0,k⟩).1 ⟨1,k⟩).2
  exact ⟨c1,by simp only;omega,by simp only;omega,by rw [c3,b3,a4],by rw [c4,b4,a5]⟩
structure RdI (w:Wd) (m:Nat) (s:Nat × Wd × Nat):Prop where
 le:s.1≤m
 right:WdR s.2.1
 thr:s.2.1.thr.length=w.thr.length
 evs:s.2.1.evs.length≤w.evs.length+16*s.1
 cnt:s.2.2≤16*s.1
 eq:roundsW w m=((roundsW s.2.1 (m-s.1)).1,s.1+(roundsW s.2.1 (m-s.1)).2)
theorem rounds_ok (w:Wd) (m:Nat) (h:WdR w) (he:w.evs.length≤500000) (hm:m≤10000):ACalls Tryz.prog 13 [encWd w,iv (m:Int)] [] (one (.tup [encWd (roundsW w m).1,iv ((roundsW w m).2:Int),iv 0]) []):=by
 have h1:=right_yes w h
 have hb8:=h.tso.sz
 have hl8:w.thr.length≤8:=by rw [h.len];omega
 have e1:decide ((m:Int) < 0)=false:=decide_eq_false (by omega)
 have e2:decide ((m:Int) > 10000)=false:=decide_eq_false (by omega)
 unfold encWd wCells ivs at *
 refine jC Tryz.func13 Tryz.ntmps13 (fun w0 β0 ext hβ=>?_)
 repeat (first|refine jS ?_|refine jD ?_|refine jB ?_|refine jV h1 ?_)
 rw [e1]
 repeat (first|refine jS ?_|refine jD ?_|refine jB ?_)
 rw [e2]
 repeat (first|refine jS ?_|refine jD ?_|refine jB ?_)
 refine jfin 3 [1,2,4,5,6,7,8] true rfl rfl rfl (by show β0.length≤3;rw [hβ];exact Nat.zero_le _) ?_
 refine jloop 3 (RdI w m) [1,2,4,5,6,7,8] (fun s=>[iv (m:Int),.ptr 0 0,.ptr 1 0,iv 0,iv 0,.ptr 2 0,iv (s.1:Int)])
  (fun s=>[.box 33 (wCells w),.box 33 w0C,.box 100 (xC s.2.1 s.2.2)]) (fun s=>m-s.1) (0,w,0) (by show β0.length≤3;rw [hβ];exact Nat.zero_le _)
  ⟨Nat.zero_le _,h,rfl,Nat.le_refl _,Nat.le_refl _,by simp⟩ rfl rfl (fun s hs=>?_)
 obtain ⟨j,x,c⟩:=s
 obtain ⟨i1,i2,i3,i4,i5,i6⟩:=hs
 simp only at i1 i2 i3 i4 i5 i6
 have hid:=sidle_ok x i2
 unfold wCells ivs xC w0C
 simp only
 repeat (first|refine jS ?_|refine jD ?_|refine jB ?_)
 by_cases hj:j < m
 ·rw [show decide ((j:Int) < (m:Int))=true from decide_eq_true (by omega)]
  obtain ⟨m',hm'⟩:∃ m',m-j=m'+1:=⟨m-j-1,by omega⟩
  rw [hm'] at i6
  unfold encWd wCells ivs at hid
  repeat (first|refine jS ?_|refine jD ?_|refine jB ?_|refine jV hid ?_)
  cases hb:idleW x with
  | true =>
   have:roundsW w m=(x,j):=by
    rw [i6,roundsW,hb];rfl
   rw [this]
   repeat (first|refine jS ?_|refine jD ?_|refine jB ?_)
   exact jR
  | false =>
   repeat (first|refine jS ?_|refine jD ?_|refine jB ?_)
   refine jloop 3 (fun q:Nat=>q≤w.thr.length) [1,2,4,5,6,7,8,38,39] (fun q=>[iv (m:Int),.ptr 0 0,.ptr 1 0,iv 0,iv 0,.ptr 2 0,iv (j:Int),.v (.int .i64 ((w.thr.map encThr).length:Int)),.v (.int .i64 (q:Int))])
    (fun q=>[.box 33 (wCells w),.box 33 w0C,.box 100 (xC (rdP (x,c) q).1 (rdP (x,c) q).2)]) (fun q=>w.thr.length-q) 0 (by show β0.length≤3;rw [hβ];exact Nat.zero_le _) (Nat.zero_le _) rfl rfl (fun q hq=>?_)
   obtain ⟨r1,r2,r3,r4,r5⟩:=rdP_right (s:=(x,c)) i2 q
   simp only at r2 r3 r4
   unfold wCells ivs xC w0C
   repeat (first|refine jS ?_|refine jD ?_|refine jB ?_)
   refine jc rfl rfl rfl (fun h=>?_) (fun h=>?_)
   ·have h:=of_decide_eq_true h
    rw [List.length_map] at h
    have hq2:q < w.thr.length:=by omega
    have hsc:=rdP_succ (x,c) q
    have hidx:IntKind.i64.wrap ((q:Int)+1)=((q+1:Nat):Int):=idx_next hq2 (by omega)
    have h3:=xstep_ok (rdP (x,c) q).1 (rdP (x,c) q).2 q r1 (by omega) (by omega)
    have hr:=actW_right (w:=(rdP (x,c) q).1) ⟨0,q⟩ r1
    have hc1:=cntB_le (rdP (x,c) q).2 (actW (rdP (x,c) q).1 ⟨0,q⟩).2
    have h4:=xflush_ok (actW (rdP (x,c) q).1 ⟨0,q⟩).1 (cntB (rdP (x,c) q).2 (actW (rdP (x,c) q).1 ⟨0,q⟩).2) q hr.1 (by omega)
    generalize actW (actW (rdP (x,c) q).1 ⟨0,q⟩).1 ⟨1,q⟩=R2 at *
    generalize hR1:actW (rdP (x,c) q).1 ⟨0,q⟩=R1 at *
    generalize rdP (x,c) q=P at *
    unfold xH xC at h3 h4
    repeat (first|refine jS ?_|refine jD ?_|refine jB ?_)
    refine jBb [2] h3 ?_
    repeat (first|refine jS ?_|refine jD ?_|refine jB ?_)
    refine jBb [2] h4 ?_
    repeat (first|refine jS ?_|refine jD ?_|refine jB ?_)
    refine jnext (q+1) hq2 (by omega) rfl rfl rfl ?_ ?_
    ·rw [hidx];rfl
    ·rw [hsc];rfl
   ·have h:=of_decide_eq_false h
    rw [List.length_map] at h
    have hqe:q=w.thr.length:=by omega
    subst hqe
    have hrd:=rdP_round x c
    rw [i3] at hrd
    have hidx:IntKind.i64.wrap ((j:Int)+1)=((j+1:Nat):Int):=by rw [wrap_id]<;>omega
    repeat (first|refine jS ?_|refine jD ?_|refine jB ?_)
    rw [hidx]
    repeat (first|refine jS ?_|refine jD ?_|refine jB ?_)
    refine jnext (j+1,(rdP (x,c) w.thr.length).1,(rdP (x,c) w.thr.length).2) ⟨by simp only;omega,r1,by simp only;rw [r4,i3],by simp only;omega,by simp only;omega,?_⟩ (by simp only;omega) rfl rfl rfl rfl rfl
    simp only
    rw [i6,roundsW,hb,hrd,show m-(j+1)=m' by omega]
    simp only [cond_false]
    congr 1
    omega
 ·have:j=m:=by omega
  subst this
  rw [show decide ((j:Int) < (j:Int))=false from decide_eq_false (by omega)]
  have:roundsW w j=(x,j):=by
   rw [i6,Nat.sub_self];rfl
  rw [this]
  repeat (first|refine jS ?_|refine jD ?_|refine jB ?_)
  exact jR
end Go.AL
end
section
set_option maxRecDepth 100000
namespace Go.AL
open Go Go.Proofs
attribute [local irreducible] J
def thrP (a:Int):Thr:={ thr0 with pc:=a }
def newOk (code:List Ins) (st:List Int) (m:Mem) (d:Int):Wd:=⟨code,⟨m,d,List.replicate st.length []⟩,st.map thrP,[]⟩
def newW (code:List Ins) (st:List Int) (m:Mem) (d:Int):Wd × Int :=
 cond (rightC code&&mRight m) (cond (inn st.length 1 8&&inn d 0 8) (cond (st.all fun a=>inn a 0 code.length) (newOk code st m d,0) (wd0,3)) (wd0,2)) (wd0,1)
theorem thr_weak (a:Int) (c:Ctx) (u:Value) (h:Rel c (.agg [iv a,iv 0,iv 0,iv 0,iv 0,iv 0,iv 0,iv 0,iv 0,.slf [],iv 0,iv 0,.slf []]) u):Rel c (encThr (thrP a)) u:=by
 obtain ⟨cs,e,h⟩:=h
 refine ⟨cs,e,?_⟩
 revert h
 have key:∀ us,RelL c [iv a,iv 0,iv 0,iv 0,iv 0,iv 0,iv 0,iv 0,iv 0,.slf [],iv 0,iv 0,.slf []] us→RelL c [iv a,iv 0,iv 0,iv 0,iv 0,iv 0,iv 0,iv 0,iv 0,.sl [],iv 0,iv 0,.slz []] us:=by
  iterate 9 refine relL_cons (fun u h=>h) ?_
  refine relL_cons (fun u h=>sl_weak h) ?_
  iterate 2 refine relL_cons (fun u h=>h) ?_
  exact relL_cons (fun u h=>slf_slz h) (fun us h=>h)
 exact key _
theorem elemsP (l:List Int):∀ x:Int,(encThr (thrP x)).cells.length=13∧(encThr (thrP x)).flat=true:=fun x=>⟨rfl,rfl⟩
theorem wnew_ok (code:List Ins) (st:List Int) (m:Mem) (d:Int) (hc:code.length≤1000000) (hs:st.length≤1000000) (hm:m.words.length≤1000000∧m.tags.length≤1000000) :
  ACalls Tryz.prog 85 [encIs code,ivs st,encMem m,iv d] [] (one (.tup [encWd (newW code st m d).1,iv (newW code st m d).2]) []):=by
 have h1:=right_ok code hc
 have h2:=mem_right m hm.1 hm.2
 have h3:=tnew_ok m (st.length:Int) d hm
 unfold newW
 cases b1:rightC code with
 | false =>
  rw [b1] at h1
  unfold encIs at h1
  unfold encWd wCells encIs ivs encMem mCells at *
  refine jC Tryz.func85 Tryz.ntmps85 (fun w0 β0 ext hβ=>?_)
  repeat (first|refine jS ?_|refine jD ?_|refine jB ?_|refine jV h1 ?_)
  exact jR
 | true =>
  rw [b1] at h1
  cases b2:mRight m with
  | false =>
   rw [b2] at h2
   unfold encIs at h1
   unfold encWd wCells encIs ivs encMem mCells at *
   unfold ivs at *
   refine jC Tryz.func85 Tryz.ntmps85 (fun w0 β0 ext hβ=>?_)
   repeat (first|refine jS ?_|refine jD ?_|refine jB ?_|refine jV h1 ?_|refine jV h2 ?_)
   exact jR
  | true =>
   rw [b2] at h2 h3
   have hlm:((st.map iv).length:Int)=(st.length:Int):=by rw [List.length_map]
   cases b3:(inn (st.length:Int) 1 8&&inn d 0 8) with
   | false =>
    rw [b3] at h3
    unfold encIs at h1
    unfold encTso tCells at h3
    unfold encWd wCells encIs encMem mCells at *
    unfold ivs at *
    refine jC Tryz.func85 Tryz.ntmps85 (fun w0 β0 ext hβ=>?_)
    repeat (first|refine jS ?_|refine jD ?_|refine jB ?_|refine jV h1 ?_|refine jV h2 ?_)
    rw [hlm]
    repeat (first|refine jS ?_|refine jD ?_|refine jB ?_|refine jV h3 ?_)
    exact jR
   | true =>
    rw [b3] at h3
    simp only [Bool.and_true,cond_true,Int.toNat_natCast] at h3 ⊢
    have b3':=(Bool.and_eq_true _ _ ▸ b3)
    have hs8:=inn_iff.1 b3'.1
    obtain ⟨hz1,hz2⟩:=allAt (l:=st) (p:=fun a=>inn a 0 (code.length:Int))
    unfold encIs at h1
    unfold encTso tCells at h3
    unfold encWd wCells encIs encMem mCells at *
    unfold ivs at *
    refine jC Tryz.func85 Tryz.ntmps85 (fun w0 β0 ext hβ=>?_)
    repeat (first|refine jS ?_|refine jD ?_|refine jB ?_|refine jV h1 ?_|refine jV h2 ?_)
    rw [hlm]
    repeat (first|refine jS ?_|refine jD ?_|refine jB ?_|refine jV h3 ?_)
    refine jadB 3 5 43 13 rfl rfl rfl rfl ?_
    refine jloopI (fun q:Nat=>q≤st.length∧∀ p,p < q→inn (at' st (p:Int)) 0 (code.length:Int)=true) [0,8,9,12,39,40,41] (fun q=>[.sl (code.map encIns),.ptr 1 0,iv 0,.ptr 3 0,.sl (st.map iv),.v (.int .i64 ((st.map iv).length:Int)),.v (.int .i64 (q:Int))])
     (fun q=>[.box 26 [.sl (m.words.map iv),.sl (m.tags.map iv)],.box 33 [.slf [],.slf [],.slf [],iv 0,.slf [],.slf [],.slf []],.box 29 [.sl (m.words.map iv),.sl (m.tags.map iv),iv d,.sl ((List.replicate st.length ([]:List Wput)).map encBuf)],
      .box 33 [.sl (code.map encIns),.sl (m.words.map iv),.sl (m.tags.map iv),iv d,.sl ((List.replicate st.length ([]:List Wput)).map encBuf),.arr 4 (q+1),.slf []],.arr (q+1) 43 13 ((st.take q).map fun a=>encThr (thrP a))]) (fun q=>st.length-q) 0 ⟨Nat.zero_le _,fun p hp=>absurd hp (Nat.not_lt_zero _)⟩ rfl rfl (fun q hq=>?_)
    obtain ⟨hq,hok⟩:=hq
    repeat (first|refine jS ?_|refine jD ?_|refine jB ?_)
    refine jc rfl rfl rfl (fun h=>?_) (fun h=>?_)
    ·have h:=of_decide_eq_true h
     rw [List.length_map] at h
     have hq2:q < st.length:=by omega
     have hidx:IntKind.i64.wrap ((q:Int)+1)=((q+1:Nat):Int):=idx_next hq2 (by omega)
     have htk:(st.take q)++[at' st (q:Int)]=st.take (q+1):=by rw [at_nat st q hq2,List.take_add_one,List.getElem?_eq_getElem hq2];rfl
     have hln:(st.take q).length≤8:=by rw [List.length_take];omega
     have hno:=hz2 q hq2
     have hnx:inn (at' st (q:Int)) 0 (code.length:Int)=true→∀ p,p < q+1→inn (at' st (p:Int)) 0 (code.length:Int)=true:=fun hb p hp=>by
      by_cases e:p=q
      ·subst e;exact hb
      ·exact hok p (by omega)
     repeat (first|refine jS ?_|refine jD ?_|refine jB ?_|refine jI (Int.natCast_nonneg q) h ?_)
     generalize at' st (q:Int)=a at *
     by_cases g1:a < 0
     ·rw [show decide (a < 0)=true from decide_eq_true g1]
      rw [hno (by cases hi:inn a 0 (code.length:Int) with|false=>rfl|true=>have:=inn_iff.1 hi;omega)]
      repeat (first|refine jS ?_|refine jD ?_|refine jB ?_)
      exact jR
     ·rw [show decide (a < 0)=false from decide_eq_false g1]
      repeat (first|refine jS ?_|refine jD ?_|refine jB ?_)
      by_cases g2:a > (code.length:Int)
      ·rw [show decide (a > (((code.map encIns).length:Nat):Int))=true from decide_eq_true (by rw [List.length_map];exact g2)]
       rw [hno (by cases hi:inn a 0 (code.length:Int) with|false=>rfl|true=>have:=inn_iff.1 hi;omega)]
       repeat (first|refine jS ?_|refine jD ?_|refine jB ?_)
       exact jR
      ·rw [show decide (a > (((code.map encIns).length:Nat):Int))=false from decide_eq_false (by rw [List.length_map];exact g2)]
       repeat (first|refine jow rfl rfl (readP_dsem rfl) (thr_weak _) rfl rfl ?_|refine jS ?_|refine jD ?_|refine jB ?_)
       refine jo rfl rfl (append_enc (enc:=fun a=>encThr (thrP a)) (l:=st.take q) a rfl rfl rfl rfl rfl rfl rfl rfl rfl rfl (elemsP []) rfl (by omega) rfl rfl) rfl rfl ?_
       rw [htk]
       repeat (first|refine jS ?_|refine jD ?_|refine jB ?_)
       refine jnextI (q+1) ⟨by omega,hnx (inn_iff.2 ⟨by omega,by omega⟩)⟩ ?_ rfl (by omega)
       show some _=some _
       rw [hidx]
    ·have h:=of_decide_eq_false h
     rw [List.length_map] at h
     have:q=st.length:=by omega
     subst this
     rw [hz1 fun p hp=>hok p (by omega),List.take_length]
     repeat (first|refine jS ?_|refine jD ?_|refine jB ?_)
     have he:(st.map thrP).map encThr=st.map fun a=>encThr (thrP a):=by rw [List.map_map];rfl
     unfold newOk
     simp only [cond_true]
     rw [he]
     rcases (by omega:st.length=1∨st.length=2∨st.length=3∨st.length=4∨st.length=5∨st.length=6∨st.length=7∨st.length=8) with e|e|e|e|e|e|e|e
     all_goals rw [e]
     all_goals exact jR
end Go.AL
end
section
set_option maxRecDepth 100000
namespace Go.AL
open Go Go.Proofs
attribute [local irreducible] J
def stAt (s:Bs) (ls:List Bs):List Int:=ls.map fun l=>(whereP s l).1
theorem stAt_take (s:Bs) (ls:List Bs) {q:Nat} (h:q < ls.length):stAt s (ls.take (q+1))=stAt s (ls.take q)++[(whereP s (at' ls (q:Int))).1]:=by
 unfold stAt
 rw [at_nat ls q h,List.take_add_one,List.getElem?_eq_getElem h,List.map_append]
 rfl
theorem starts_ok (g:Gl) (s:Bs) (ls:List Bs) (hs:s.length≤1000000) (hl:ls.length≤1000) (hall:∀ l∈ls,(whereP s l).2=0) :
  ACalls Tryz.prog 83 [sv s,.sl (ls.map sv)] (gls g) (one (.tup [ivs (stAt s ls),.v .nilIface]) (gls g)):=by
 have hw:=fun w=>where_ok g s w hs
 unfold gls at *
 refine jC Tryz.func83 Tryz.ntmps83 (fun w0 β0 ext hβ=>?_)
 refine jS ?_;refine jS ?_;refine jS ?_
 refine jS ?_;refine jS ?_;refine jS ?_
 refine jS ?_
 refine jS ?_
 repeat (first|refine jad 6 3 1 rfl rfl rfl rfl ?_|refine jS ?_|refine jD ?_|refine jB ?_)
 refine jloopI (ι:=Nat) (fun q=>q≤ls.length) [0,4,5,6,11,12,13] (fun q=>[sv s,.slf [],.v .nilIface,.arr 4 (q+1),.sl (ls.map sv),.v (.int .i64 ((ls.map sv).length:Int)),.v (.int .i64 (q:Int))])
  (fun q=>[g.a,g.b,g.c,g.d,.arr (q+1) 3 1 ((stAt s (ls.take q)).map iv)]) (fun q=>ls.length-q) 0 (Nat.zero_le _) rfl rfl (fun q hq=>?_)
 repeat (first|refine jS ?_|refine jD ?_|refine jB ?_)
 refine jc rfl rfl rfl (fun h=>?_) (fun h=>?_)
 ·have h:=of_decide_eq_true h
  rw [List.length_map] at h
  have hq2:q < ls.length:=by omega
  have hidx:IntKind.i64.wrap ((q:Int)+1)=((q+1:Nat):Int):=idx_next hq2 (by omega)
  have htk:=stAt_take s ls hq2
  have hw:=hw (at' ls (q:Int))
  have h0:=hall _ (at_mem hq2)
  have hln:(stAt s (ls.take q)).length≤1000:=by unfold stAt;rw [List.length_map,List.length_take];omega
  generalize whereP s (at' ls (q:Int))=r at *
  obtain ⟨r1,r2⟩:=r
  simp only at h0 htk
  subst h0
  repeat (first|refine jS ?_|refine jD ?_|refine jB ?_|refine jI (Int.natCast_nonneg q) h ?_)
  refine jBb [0,1,2,3] hw ?_
  repeat (first|refine jS ?_|refine jD ?_|refine jB ?_)
  refine jo rfl rfl (append_enc (enc:=iv) (l:=stAt s (ls.take q)) r1 rfl rfl rfl rfl rfl rfl rfl rfl rfl rfl (fun x=>⟨rfl,rfl⟩) rfl (by omega) rfl rfl) rfl rfl ?_
  rw [←htk]
  repeat (first|refine jS ?_|refine jD ?_|refine jB ?_)
  refine jnextI (q+1) hq2 ?_ rfl (by omega)
  show some _=some _
  rw [hidx]
 ·have h:=of_decide_eq_false h
  rw [List.length_map] at h
  have:q=ls.length:=by omega
  subst this
  rw [List.take_length]
  refine jpub 6 rfl rfl rfl rfl ?_
  repeat (first|refine jS ?_|refine jD ?_|refine jB ?_)
  exact jR
theorem as_nil (ps:List Value):ACalls Tryz.prog 84 [.v .nilIface,.ifc 152 (.ptr 0 0)] [.box 150 [sv []]] (one (bv false) [.box 150 [sv []]]):=by
 refine jC Tryz.func84 Tryz.ntmps84 (fun w0 β0 ext hβ=>?_)
 repeat (first|refine jS ?_|refine jD ?_|refine jB ?_|refine jo rfl rfl (eq_nilI rfl rfl rfl) rfl rfl ?_)
 exact jR
theorem snew_ok (g:Gl) (s:Bs) (ls:List Bs) (m:Mem) (d:Int) (hs:s.length≤100000) (hl:ls.length≤1000) (hm:m.words.length≤1000000∧m.tags.length≤1000000) (hp:(parseP s).2.2=0) (hall:∀ l∈ls,(whereP s l).2=0) (hc:(parseP s).1.length≤1000000) :
  ACalls Tryz.prog 44 [sv s,.sl (ls.map sv),encMem m,iv d] (gls g) (one (.tup [encWd (newW (parseP s).1 (stAt s ls) m d).1,iv (newW (parseP s).1 (stAt s ls) m d).2]) (gls g)):=by
 have h1:=parse_ok g s (by omega)
 have h2:=starts_ok g s ls (by omega) hl hall
 have h3:=as_nil []
 have h4:=wnew_ok (parseP s).1 (stAt s ls) m d hc (by unfold stAt;simp;omega) hm
 rw [hp] at h1
 generalize newW (parseP s).1 (stAt s ls) m d=r at *
 unfold gls encIs at *
 unfold encWd wCells encMem mCells ivs at *
 refine jC Tryz.func44 Tryz.ntmps44 (fun w0 β0 ext hβ=>?_)
 repeat (first|refine jS ?_|refine jD ?_|refine jB ?_)
 refine jBb [0,1,2,3] h1 ?_
 repeat (first|refine jS ?_|refine jD ?_|refine jB ?_)
 refine jBb [0,1,2,3] h2 ?_
 repeat (first|refine jS ?_|refine jD ?_|refine jB ?_)
 refine jBb [6] h3 ?_
 repeat (first|refine jS ?_|refine jD ?_|refine jB ?_|refine jV h4 ?_)
 exact jR
end Go.AL
end
section
set_option maxRecDepth 100000
namespace Go.AL.AsW
open Go Go.Proofs Go.RowKit Go.Extern.Stop Go.Stop Go.Extern
theorem rls (v x:Value):ReflectliteValue.set #[v,x]=(do
  let (some (dst,a,fl),some (src,b,_)):=(←ReflectliteValue.parts v,←ReflectliteValue.parts x)
   | unsupported (.noEntry "extern/(internal/reflectlite.Value).Set.zeroValue")
  if fl / ReflectliteValue.flagAddr % 2 == 0 then unsupported (.noEntry "extern/(internal/reflectlite.Value).Set.unaddressable")
  let val ←loadVar src b
  if ←Rtype.directlyAssignable dst src then storeVar dst a val
  else if ←Rtype.implements dst src then
   if (←Rtype.kind src) == 20 then
    match val with
    | .nilIface=>unsupported (.noEntry "extern/reflectlite: a nil value of one interface type handed on as a value of another")
    | _=>storeVar dst a val
   else storeVar dst a (.iface src val)
  else panicString ("reflectlite.Set: value of type " ++ (←Rtype.spelt src) ++ " is not assignable to type " ++ (←Rtype.spelt dst))
  pure (.tuple #[])):=rfl
theorem partsTa (a:Addr) (w:World):(ReflectliteValue.parts (.agg #[.pointer (some ⟨9,150,none⟩),.pointer (some a),.int .u64 409])).run Tryz.prog w = .ok (some (150,a,409)) w:=by kernel_rfl
theorem partsT (a:Addr) (w:World):(ReflectliteValue.parts (.agg #[.pointer (some ⟨9,150,none⟩),.pointer (some a),.int .u64 153])).run Tryz.prog w = .ok (some (150,a,153)) w:=by kernel_rfl
theorem directT (w:World):(Rtype.directlyAssignable 150 150).run Tryz.prog w = .ok true w:=by kernel_rfl
theorem sizeT (w:World):(sizeOf 150).run Tryz.prog w = .ok 1 w:=by kernel_rfl
theorem loadT (b:Addr) (s:ByteArray) (W:World) (hb:W.cell? b=some (.string s)):(loadVar 150 b).run Tryz.prog W = .ok (.agg #[.string s]) W:=by
 simp [loadVar,isAgg,underlying,Tryz.underlying150,Result.andThen,sizeT,loadCells,loadCellsFrom,Addr.add,hb]
theorem storeT (ta:Addr) (s:ByteArray) (old:Value) (W:World) (ht:W.cell? ta=some old) (hf:W.frozen? ta=false):(storeVar 150 ta (.agg #[.string s])).run Tryz.prog W = .ok () (W.setCell ta (.string s)):=by
 unfold storeVar
 simp [Sem.run_bind,sizeT,Result.andThen,Value.cells,storeCells,Addr.add]
 rw [run_store Tryz.prog W ta _ _ (by rfl)]
 simp [ht,hf]
theorem setT (ta b:Addr) (s:ByteArray) (old:Value) (W:World) (hb:W.cell? b=some (.string s)) (ht:W.cell? ta=some old) (hf:W.frozen? ta=false) :
  (ReflectliteValue.set #[.agg #[.pointer (some ⟨9,150,none⟩),.pointer (some ta),.int .u64 409],.agg #[.pointer (some ⟨9,150,none⟩),.pointer (some b),.int .u64 153]]).run Tryz.prog W
   = .ok (.tuple #[]) (W.setCell ta (.string s)):=by
 rw [rls]
 simp only [Sem.run_bind,partsTa,partsT,Result.andThen]
 simp [ReflectliteValue.flagAddr,loadT b s W hb,storeT ta s old W ht hf,Result.andThen,directT]
def w4 (t:Addr) (s:ByteArray) (w:World):World:=(((w.alloc (.cells #[.pointer (some t)] 152)).alloc (.cells #[.pointer (some ⟨9,152,none⟩),.pointer (some ⟨w.heap.size,0,none⟩),.int .u64 150] 201)).alloc (.cells #[.pointer (some ⟨9,152,none⟩),.pointer (some ⟨w.heap.size,0,none⟩),.int .u64 150] 201)).alloc (.cells #[.string s] 150)
end Go.AL.AsW
end
section
set_option maxRecDepth 100000
namespace Go.AL
open Go Go.Proofs
attribute [local irreducible] J
end Go.AL
end
