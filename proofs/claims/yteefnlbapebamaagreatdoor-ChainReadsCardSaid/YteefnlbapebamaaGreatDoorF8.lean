/-
  Part 8 of the proof texts: the program logic over the model, then the contracts of the functions that the laws reach. No conditions.
-/
import Derived.Test.YteefnlbapebamaaGreatDoorF7
set_option linter.unusedVariables false
set_option linter.unusedSimpArgs false
set_option maxHeartbeats 2000000
section
set_option maxRecDepth 100000
namespace Go.AL
open Go Go.Proofs
attribute [local irreducible] J
theorem lin_ok (n a b:Int):ACalls Tryz.prog 226 [iv n,iv a,iv b] [] (one (bv (inn n a b)) []):=by
 unfold inn
 refine jC Tryz.func226 Tryz.ntmps226 (fun w0 β0 ext hβ=>?_)
 repeat (first|refine jS ?_|refine jD ?_|refine jB ?_)
 cases h:decide (n≥a)
 all_goals (
  repeat (first|refine jS ?_|refine jD ?_|refine jB ?_)
 )
 all_goals exact jR
theorem ready_ok (t:Thr) (s:Int) (hf:t.frames.length≤1000000) (hl:t.left.length≤1000000):ACalls Tryz.prog 224 [encThr t,iv s] [] (one (iv (loReady t s)) []):=by
 have h1:=thr_right t hf hl
 have h2:=lin_ok s 0 7
 have e1:(t.state != 0) = !decide (t.state=0):=rfl
 have e2:decide (((t.left.map iv).length:Int) > 0)=decide (0 < t.left.length):=by rw [List.length_map];exact decide_eq_decide.2 (by omega)
 unfold loReady
 unfold encThr thCells at *
 generalize thRight t=b1 at *
 generalize inn s 0 7=b2 at *
 generalize decide (t.state=0)=b3 at *
 generalize decide (0 < t.left.length)=b4 at *
 cases b1 with
 | false =>
  refine jC Tryz.func224 Tryz.ntmps224 (fun w0 β0 ext hβ=>?_)
  repeat (first|refine jS ?_|refine jD ?_|refine jB ?_|refine jV h1 ?_)
  exact jR
 | true =>
  cases b2 with
  | false =>
   refine jC Tryz.func224 Tryz.ntmps224 (fun w0 β0 ext hβ=>?_)
   repeat (first|refine jS ?_|refine jD ?_|refine jB ?_|refine jV h1 ?_|refine jV h2 ?_)
   exact jR
  | true =>
   cases b3 with
   | false =>
    refine jC Tryz.func224 Tryz.ntmps224 (fun w0 β0 ext hβ=>?_)
    repeat (first|refine jS ?_|refine jD ?_|refine jB ?_|refine jV h1 ?_|refine jV h2 ?_)
    rw [e1]
    repeat (first|refine jS ?_|refine jD ?_|refine jB ?_)
    exact jR
   | true =>
    refine jC Tryz.func224 Tryz.ntmps224 (fun w0 β0 ext hβ=>?_)
    repeat (first|refine jS ?_|refine jD ?_|refine jB ?_|refine jV h1 ?_|refine jV h2 ?_)
    rw [e1]
    repeat (first|refine jS ?_|refine jD ?_|refine jB ?_)
    rw [e2]
    cases b4
    all_goals (
     repeat (first|refine jS ?_|refine jD ?_|refine jB ?_)
    )
    all_goals exact jR
def fnA (k:FuncId):AVal:=.fn (.func k) [] []
def howC:List AVal:=[iv 0,iv 0,.v .nilFunc,iv 1,iv (-1),fnA 253,iv 2,iv (-1),fnA 254,iv 2,iv (-1),fnA 255,
 iv 2,iv (-1),fnA 256,iv 3,iv (-1),fnA 257,iv 3,iv (-1),fnA 258,iv 3,iv (-1),fnA 259,iv 3,iv (-1),fnA 260,
 iv 3,iv (-1),fnA 261,iv 0,iv 0,fnA 262,iv 1,iv 1,fnA 263,iv 1,iv 1,fnA 264,iv 0,iv 0,.v .nilFunc,iv 0,iv (-1),.v .nilFunc,iv 1,iv (-1),fnA 265]
theorem all_ok:ACalls Tryz.prog 225 [] [] (one (.agg howC) []):=by
 refine jC Tryz.func225 Tryz.ntmps225 (fun w0 β0 ext hβ=>?_)
 repeat (first|refine jS ?_|refine jD ?_|refine jB ?_)
 exact jR
theorem abc_get (a b c:Int) {k:Nat} (h:k < 3) {o:Nat} (ho:o=k):takeA ty3 [iv a,iv b,iv c] o=some (iv (at' [a,b,c] (k:Int))):=by
 subst ho
 match o,h with
 | 0,_=>rfl
 | 1,_=>rfl
 | 2,_=>rfl
 | k+3,h=>omega
theorem lmay_ok (n:Nat) (tg:Int) (fn:AVal) (i:Ins) (hn:n≤3) (ht:tg = -1∨0≤tg∧tg < 3) (hf:fn = .v .nilFunc∨∃ k,fn=fnA k) :
  ACalls Tryz.prog 227 [.agg [iv (n:Int),iv tg,fn],encIns i] [] (one (bv ((([i.a,i.b,i.c].take n).all fun k=>inn k 0 7)&&(decide (tg = -1)||inn (g0 [i.a,i.b,i.c] tg.toNat) 0 1000))) []):=by
 have h1:=fun v=>lin_ok v 0 7
 have h2:=lin_ok (g0 [i.a,i.b,i.c] tg.toNat) 0 1000
 have e1:(tg == -1)=decide (tg = -1):=rfl
 have htk:([i.a,i.b,i.c].take n).length=n:=by simp;omega
 have hta:∀ q:Nat,q < n→at' ([i.a,i.b,i.c].take n) (q:Int)=at' [i.a,i.b,i.c] (q:Int):=fun q hq=>by
  rw [at_nat _ q (by omega),at_nat _ q (by simp;omega)];simp
 obtain ⟨hz1,hz2⟩:=allAt (l:=[i.a,i.b,i.c].take n) (p:=fun k=>inn k 0 7)
 rw [htk] at hz1 hz2
 unfold encIns
 rcases hf with rfl|⟨kf,rfl⟩
 all_goals (
  refine jC Tryz.func227 Tryz.ntmps227 (fun w0 β0 ext hβ=>?_)
  repeat (first|refine jS ?_|refine jD ?_|refine jB ?_|refine jo rfl rfl (slice_box 0 n rfl rfl ⟨_,rfl⟩ rfl rfl rfl (by omega) (by omega) (by omega)) rfl rfl ?_|refine jo rfl rfl (len_bs rfl rfl rfl) rfl rfl ?_)
  refine jloopI (fun k:Nat=>k≤n∧∀ q,q < k→inn (at' ([i.a,i.b,i.c].take n) (q:Int)) 0 7=true) [2,5,17,18,19] (fun k=>[.ptr 0 0,.ptr 2 0,.bs 2 0 n 3,iv (n:Int),iv (k:Int)])
   (fun k=>_) (fun k=>n-k) 0 ⟨Nat.zero_le _,fun q h=>absurd h (by omega)⟩ rfl rfl (fun k hk=>?_)
  obtain ⟨hk,hok⟩:=hk
  repeat (first|refine jS ?_|refine jD ?_|refine jB ?_)
  refine jc rfl rfl rfl (fun h=>?_) (fun h=>?_)
  ·have h:=of_decide_eq_true h
   have hk2:k < n:=by omega
   have hidx:IntKind.i64.wrap ((k:Int)+1)=((k+1:Nat):Int):=idx_next hk2 (by omega)
   have h1:=h1 (at' [i.a,i.b,i.c] (k:Int))
   have hno:=hz2 k hk2
   rw [hta k hk2] at hno
   have hnx:inn (at' [i.a,i.b,i.c] (k:Int)) 0 7=true→∀ q,q < k+1→inn (at' ([i.a,i.b,i.c].take n) (q:Int)) 0 7=true:=fun hb q hq=>by
    by_cases e:q=k
    ·subst e;rw [hta _ hk2];exact hb
    ·exact hok q (by omega)
   have hcell:=abc_get i.a i.b i.c (k:=k) (by omega) (o:=0+((k:Int)).toNat*ty3.size) (by show 0+k*1=k;omega)
   repeat (first|refine jS ?_|refine jD ?_|refine jB ?_|refine jo rfl rfl (index_bs rfl rfl rfl rfl rfl (Int.natCast_nonneg k) h) rfl rfl ?_|refine jo rfl rfl (load_dsem (r:=ty3) rfl rfl rfl hcell) rfl rfl ?_|refine jV h1 ?_)
   cases hb:inn (at' [i.a,i.b,i.c] (k:Int)) 0 7 with
   | false =>
    repeat (first|refine jS ?_|refine jD ?_|refine jB ?_)
    rw [hno hb]
    exact jR
   | true =>
    repeat (first|refine jS ?_|refine jD ?_|refine jB ?_)
    refine jnextI (k+1) ⟨by omega,hnx hb⟩ ?_ rfl (by omega)
    show some _=some _
    rw [hidx]
    rfl
  ·have h:=of_decide_eq_false h
   rw [hz1 fun q hq=>hok q (by omega)]
   repeat (first|refine jS ?_|refine jD ?_|refine jB ?_)
   rw [e1]
   rcases ht with rfl|⟨t0,t3⟩
   ·repeat (first|refine jS ?_|refine jD ?_|refine jB ?_)
    exact jR
   ·rw [show decide (tg = -1)=false from decide_eq_false (by omega)]
    have hcell:=abc_get i.a i.b i.c (k:=tg.toNat) (by omega) (o:=0+tg.toNat*ty3.size) (by show 0+tg.toNat*1=tg.toNat;omega)
    rw [show at' [i.a,i.b,i.c] ((tg.toNat:Nat):Int)=g0 [i.a,i.b,i.c] tg.toNat from rfl] at hcell
    repeat (first|refine jS ?_|refine jD ?_|refine jB ?_|refine jo rfl rfl (index_arr rfl rfl rfl rfl rfl t0 t3) rfl rfl ?_|refine jo rfl rfl (load_dsem (r:=ty3) rfl rfl rfl hcell) rfl rfl ?_|refine jV h2 ?_)
    exact jR
 )
def lwC (t:Thr) (s:Int) (i:Ins):List AVal :=
 [iv t.pc,iv (g0 t.regs 0),iv (g0 t.regs 1),iv (g0 t.regs 2),iv (g0 t.regs 3),iv (g0 t.regs 4),iv (g0 t.regs 5),iv (g0 t.regs 6),iv (g0 t.regs 7),.sl (t.frames.map encFrm),iv t.state,iv t.fault,.slz (t.left.map iv),iv s,iv i.op,iv i.a,iv i.b,iv i.c]
theorem eight {k:Int} (h0:0≤k) (h8:k < 8):k=0∨k=1∨k=2∨k=3∨k=4∨k=5∨k=6∨k=7:=by omega
theorem lw_get (t:Thr) (s:Int) (i:Ins) {k:Int} (h0:0≤k) (h8:k < 8):takeA ty3 (lwC t s i) (0+1+k.toNat*ty3.size)=some (iv (rg t k)):=by
 rcases eight h0 h8 with rfl|rfl|rfl|rfl|rfl|rfl|rfl|rfl<;>rfl
theorem lw_set (t:Thr) (s:Int) (i:Ins) (v:Int) {k:Int} (h0:0≤k) (h8:k < 8):spliceA (lwC t s i) (0+1+k.toNat*ty3.size) [iv v]=lwC (setR t k v) s i:=by
 rcases eight h0 h8 with rfl|rfl|rfl|rfl|rfl|rfl|rfl|rfl<;>rfl
theorem lone_ok (t:Thr) (s:Int) (i:Ins) (h0:0≤i.b) (h8:i.b < 8):ACalls Tryz.prog 286 [.ptr 0 0] [.box 314 (lwC t s i)] (one (iv (rg t i.b)) [.box 314 (lwC t s i)]):=by
 have hg:=lw_get t s i h0 h8
 unfold lwC at *
 refine jC Tryz.func286 Tryz.ntmps286 (fun w0 β0 ext hβ=>?_)
 repeat (first|refine jS ?_|refine jD ?_|refine jB ?_|refine jo rfl rfl (index_arr rfl rfl rfl rfl rfl h0 h8) rfl rfl ?_|refine jo rfl rfl (load_dsem (r:=ty3) rfl rfl rfl hg) rfl rfl ?_)
 exact jR
theorem ltwo_ok (t:Thr) (s:Int) (i:Ins) (h0:0≤i.c) (h8:i.c < 8):ACalls Tryz.prog 287 [.ptr 0 0] [.box 314 (lwC t s i)] (one (iv (rg t i.c)) [.box 314 (lwC t s i)]):=by
 have hg:=lw_get t s i h0 h8
 unfold lwC at *
 refine jC Tryz.func287 Tryz.ntmps287 (fun w0 β0 ext hβ=>?_)
 repeat (first|refine jS ?_|refine jD ?_|refine jB ?_|refine jo rfl rfl (index_arr rfl rfl rfl rfl rfl h0 h8) rfl rfl ?_|refine jo rfl rfl (load_dsem (r:=ty3) rfl rfl rfl hg) rfl rfl ?_)
 exact jR
theorem lset_ok (t:Thr) (s:Int) (i:Ins) (v:Int) (h0:0≤i.a) (h8:i.a < 8):ACalls Tryz.prog 285 [.ptr 0 0,iv v] [.box 314 (lwC t s i)] (one (.tup []) [.box 314 (lwC (setR t i.a v) s i)]):=by
 have hg:=lw_set t s i v h0 h8
 have hle:0+1+i.a.toNat*ty3.size+1≤18:=by show 0+1+i.a.toNat*1+1≤18;omega
 unfold lwC at *
 refine jC Tryz.func285 Tryz.ntmps285 (fun w0 β0 ext hβ=>?_)
 repeat (first|refine jS ?_|refine jD ?_|refine jB ?_|refine jo rfl rfl (index_arr rfl rfl rfl rfl rfl h0 h8) rfl rfl ?_|refine jo rfl rfl (store_box (r':=ty3) (v:=iv v) rfl rfl rfl rfl rfl rfl hle hg) rfl rfl ?_)
 exact jend [] true rfl rfl rfl ⟨rfl,rfl⟩
theorem lm_load (t:Thr) (s:Int) (i:Ins) (ha0:0≤i.a) (ha8:i.a < 8):ACalls Tryz.prog 253 [.ptr 0 0] [.box 314 (lwC t s i)] (one (.tup []) [.box 314 (lwC (setR t i.a (i.b)) s i)]):=by
 have hs:=lset_ok t s i (i.b) ha0 ha8
 unfold lwC at *
 refine jC Tryz.func253 Tryz.ntmps253 (fun w0 β0 ext hβ=>?_)
 repeat (first|refine jS ?_|refine jD ?_|refine jB ?_)
 refine jBb [0] hs ?_
 repeat (first|refine jS ?_|refine jD ?_|refine jB ?_)
 exact jend [] true rfl rfl rfl ⟨rfl,rfl⟩
theorem lm_move (t:Thr) (s:Int) (i:Ins) (ha0:0≤i.a) (ha8:i.a < 8) (hb0:0≤i.b) (hb8:i.b < 8):ACalls Tryz.prog 254 [.ptr 0 0] [.box 314 (lwC t s i)] (one (.tup []) [.box 314 (lwC (setR t i.a (rg t i.b)) s i)]):=by
 have hs:=lset_ok t s i (rg t i.b) ha0 ha8
 have h1:=lone_ok t s i hb0 hb8
 unfold lwC at *
 refine jC Tryz.func254 Tryz.ntmps254 (fun w0 β0 ext hβ=>?_)
 repeat (first|refine jS ?_|refine jD ?_|refine jB ?_)
 refine jBb [0] h1 ?_
 repeat (first|refine jS ?_|refine jD ?_|refine jB ?_)
 refine jBb [0] hs ?_
 repeat (first|refine jS ?_|refine jD ?_|refine jB ?_)
 exact jend [] true rfl rfl rfl ⟨rfl,rfl⟩
theorem lm_plus (t:Thr) (s:Int) (i:Ins) (ha0:0≤i.a) (ha8:i.a < 8) (hb0:0≤i.b) (hb8:i.b < 8):ACalls Tryz.prog 255 [.ptr 0 0] [.box 314 (lwC t s i)] (one (.tup []) [.box 314 (lwC (setR t i.a (IntKind.i64.wrap (rg t i.b+i.c))) s i)]):=by
 have hs:=lset_ok t s i (IntKind.i64.wrap (rg t i.b+i.c)) ha0 ha8
 have h1:=lone_ok t s i hb0 hb8
 unfold lwC at *
 refine jC Tryz.func255 Tryz.ntmps255 (fun w0 β0 ext hβ=>?_)
 refine jdrawPT [(0,.p),(1,.p),(2,.s),(3,.p),(4,.p),(5,.p),(6,.p),(7,.r),(8,.p),(9,.m)] rfl (by kernel_rfl) ?_
 repeat (first|refine jS ?_|refine jD ?_|refine jB ?_)
 refine jbs [0] h1 rfl rfl rfl ⟨rfl,rfl,rfl,rfl,rfl,rfl⟩ rfl rfl rfl rfl ?_
 repeat (first|refine jS ?_|refine jD ?_|refine jB ?_)
 refine jBb [0] hs ?_
 repeat (first|refine jS ?_|refine jD ?_|refine jB ?_)
 exact jend [] true rfl rfl rfl ⟨rfl,rfl⟩
theorem lm_mask (t:Thr) (s:Int) (i:Ins) (ha0:0≤i.a) (ha8:i.a < 8) (hb0:0≤i.b) (hb8:i.b < 8):ACalls Tryz.prog 256 [.ptr 0 0] [.box 314 (lwC t s i)] (one (.tup []) [.box 314 (lwC (setR t i.a (bitsI .and .i64 (rg t i.b) i.c)) s i)]):=by
 have hs:=lset_ok t s i (bitsI .and .i64 (rg t i.b) i.c) ha0 ha8
 have h1:=lone_ok t s i hb0 hb8
 unfold lwC at *
 refine jC Tryz.func256 Tryz.ntmps256 (fun w0 β0 ext hβ=>?_)
 refine jdrawPT [(0,.p),(1,.p),(2,.s),(3,.p),(4,.p),(5,.p),(6,.p),(7,.r),(8,.p),(9,.m)] rfl (by kernel_rfl) ?_
 repeat (first|refine jS ?_|refine jD ?_|refine jB ?_)
 refine jbs [0] h1 rfl rfl rfl ⟨rfl,rfl,rfl,rfl,rfl,rfl⟩ rfl rfl rfl rfl ?_
 repeat (first|refine jS ?_|refine jD ?_|refine jB ?_)
 refine jBb [0] hs ?_
 repeat (first|refine jS ?_|refine jD ?_|refine jB ?_)
 exact jend [] true rfl rfl rfl ⟨rfl,rfl⟩
theorem lm_add (t:Thr) (s:Int) (i:Ins) (ha0:0≤i.a) (ha8:i.a < 8) (hb0:0≤i.b) (hb8:i.b < 8) (hc0:0≤i.c) (hc8:i.c < 8):ACalls Tryz.prog 257 [.ptr 0 0] [.box 314 (lwC t s i)] (one (.tup []) [.box 314 (lwC (setR t i.a (IntKind.i64.wrap (rg t i.b+rg t i.c))) s i)]):=by
 have hs:=lset_ok t s i (IntKind.i64.wrap (rg t i.b+rg t i.c)) ha0 ha8
 have h1:=lone_ok t s i hb0 hb8
 have h2:=ltwo_ok t s i hc0 hc8
 unfold lwC at *
 refine jC Tryz.func257 Tryz.ntmps257 (fun w0 β0 ext hβ=>?_)
 repeat (first|refine jS ?_|refine jD ?_|refine jB ?_)
 refine jBb [0] h1 ?_
 repeat (first|refine jS ?_|refine jD ?_|refine jB ?_)
 refine jBb [0] h2 ?_
 repeat (first|refine jS ?_|refine jD ?_|refine jB ?_)
 refine jBb [0] hs ?_
 repeat (first|refine jS ?_|refine jD ?_|refine jB ?_)
 exact jend [] true rfl rfl rfl ⟨rfl,rfl⟩
theorem lm_sub (t:Thr) (s:Int) (i:Ins) (ha0:0≤i.a) (ha8:i.a < 8) (hb0:0≤i.b) (hb8:i.b < 8) (hc0:0≤i.c) (hc8:i.c < 8):ACalls Tryz.prog 258 [.ptr 0 0] [.box 314 (lwC t s i)] (one (.tup []) [.box 314 (lwC (setR t i.a (IntKind.i64.wrap (rg t i.b-rg t i.c))) s i)]):=by
 have hs:=lset_ok t s i (IntKind.i64.wrap (rg t i.b-rg t i.c)) ha0 ha8
 have h1:=lone_ok t s i hb0 hb8
 have h2:=ltwo_ok t s i hc0 hc8
 unfold lwC at *
 refine jC Tryz.func258 Tryz.ntmps258 (fun w0 β0 ext hβ=>?_)
 repeat (first|refine jS ?_|refine jD ?_|refine jB ?_)
 refine jBb [0] h1 ?_
 repeat (first|refine jS ?_|refine jD ?_|refine jB ?_)
 refine jBb [0] h2 ?_
 repeat (first|refine jS ?_|refine jD ?_|refine jB ?_)
 refine jBb [0] hs ?_
 repeat (first|refine jS ?_|refine jD ?_|refine jB ?_)
 exact jend [] true rfl rfl rfl ⟨rfl,rfl⟩
theorem lm_and (t:Thr) (s:Int) (i:Ins) (ha0:0≤i.a) (ha8:i.a < 8) (hb0:0≤i.b) (hb8:i.b < 8) (hc0:0≤i.c) (hc8:i.c < 8):ACalls Tryz.prog 259 [.ptr 0 0] [.box 314 (lwC t s i)] (one (.tup []) [.box 314 (lwC (setR t i.a (bitsI .and .i64 (rg t i.b) (rg t i.c))) s i)]):=by
 have hs:=lset_ok t s i (bitsI .and .i64 (rg t i.b) (rg t i.c)) ha0 ha8
 have h1:=lone_ok t s i hb0 hb8
 have h2:=ltwo_ok t s i hc0 hc8
 unfold lwC at *
 refine jC Tryz.func259 Tryz.ntmps259 (fun w0 β0 ext hβ=>?_)
 repeat (first|refine jS ?_|refine jD ?_|refine jB ?_)
 refine jBb [0] h1 ?_
 repeat (first|refine jS ?_|refine jD ?_|refine jB ?_)
 refine jBb [0] h2 ?_
 repeat (first|refine jS ?_|refine jD ?_|refine jB ?_)
 refine jBb [0] hs ?_
 repeat (first|refine jS ?_|refine jD ?_|refine jB ?_)
 exact jend [] true rfl rfl rfl ⟨rfl,rfl⟩
theorem lm_xor (t:Thr) (s:Int) (i:Ins) (ha0:0≤i.a) (ha8:i.a < 8) (hb0:0≤i.b) (hb8:i.b < 8) (hc0:0≤i.c) (hc8:i.c < 8):ACalls Tryz.prog 260 [.ptr 0 0] [.box 314 (lwC t s i)] (one (.tup []) [.box 314 (lwC (setR t i.a (bitsI .xor .i64 (rg t i.b) (rg t i.c))) s i)]):=by
 have hs:=lset_ok t s i (bitsI .xor .i64 (rg t i.b) (rg t i.c)) ha0 ha8
 have h1:=lone_ok t s i hb0 hb8
 have h2:=ltwo_ok t s i hc0 hc8
 unfold lwC at *
 refine jC Tryz.func260 Tryz.ntmps260 (fun w0 β0 ext hβ=>?_)
 repeat (first|refine jS ?_|refine jD ?_|refine jB ?_)
 refine jBb [0] h1 ?_
 repeat (first|refine jS ?_|refine jD ?_|refine jB ?_)
 refine jBb [0] h2 ?_
 repeat (first|refine jS ?_|refine jD ?_|refine jB ?_)
 refine jBb [0] hs ?_
 repeat (first|refine jS ?_|refine jD ?_|refine jB ?_)
 exact jend [] true rfl rfl rfl ⟨rfl,rfl⟩
theorem lm_who (t:Thr) (s:Int) (i:Ins) (ha0:0≤i.a) (ha8:i.a < 8):ACalls Tryz.prog 265 [.ptr 0 0] [.box 314 (lwC t s i)] (one (.tup []) [.box 314 (lwC (setR t i.a (s)) s i)]):=by
 have hs:=lset_ok t s i (s) ha0 ha8
 unfold lwC at *
 refine jC Tryz.func265 Tryz.ntmps265 (fun w0 β0 ext hβ=>?_)
 repeat (first|refine jS ?_|refine jD ?_|refine jB ?_)
 refine jBb [0] hs ?_
 repeat (first|refine jS ?_|refine jD ?_|refine jB ?_)
 exact jend [] true rfl rfl rfl ⟨rfl,rfl⟩
theorem lm_less (t:Thr) (s:Int) (i:Ins) (ha0:0≤i.a) (ha8:i.a < 8) (hb0:0≤i.b) (hb8:i.b < 8) (hc0:0≤i.c) (hc8:i.c < 8):ACalls Tryz.prog 261 [.ptr 0 0] [.box 314 (lwC t s i)]
  (one (.tup []) [.box 314 (lwC (setR t i.a (cond (decide (rg t i.b < rg t i.c)) 1 0)) s i)]):=by
 have hs0:=lset_ok t s i 0 ha0 ha8
 have hs1:=lset_ok (setR t i.a 0) s i 1 ha0 ha8
 have h1:=lone_ok t s i hb0 hb8
 have h2:=ltwo_ok t s i hc0 hc8
 have hss:∀ v w,lwC (setR (setR t i.a v) i.a w) s i=lwC (setR t i.a w) s i:=fun v w=>by
  rw [←lw_set (setR t i.a v) s i w ha0 ha8,←lw_set t s i w ha0 ha8,←lw_set t s i v ha0 ha8]
  rcases eight ha0 ha8 with e|e|e|e|e|e|e|e<;>rw [e]<;>rfl
 rw [hss] at hs1
 unfold lwC at *
 refine jC Tryz.func261 Tryz.ntmps261 (fun w0 β0 ext hβ=>?_)
 repeat (first|refine jS ?_|refine jD ?_|refine jB ?_)
 refine jBb [0] h1 ?_
 repeat (first|refine jS ?_|refine jD ?_|refine jB ?_)
 refine jBb [0] h2 ?_
 repeat (first|refine jS ?_|refine jD ?_|refine jB ?_)
 refine jBb [0] hs0 ?_
 repeat (first|refine jS ?_|refine jD ?_|refine jB ?_)
 cases hd:decide (rg t i.b < rg t i.c) with
 | false =>
  repeat (first|refine jS ?_|refine jD ?_|refine jB ?_)
  exact jend [] true rfl rfl rfl ⟨rfl,rfl⟩
 | true =>
  repeat (first|refine jS ?_|refine jD ?_|refine jB ?_)
  refine jBb [0] hs1 ?_
  repeat (first|refine jS ?_|refine jD ?_|refine jB ?_)
  exact jend [] true rfl rfl rfl ⟨rfl,rfl⟩
theorem lm_jump (t:Thr) (s:Int) (i:Ins):ACalls Tryz.prog 262 [.ptr 0 0] [.box 314 (lwC t s i)] (one (.tup []) [.box 314 (lwC { t with pc:=i.a } s i)]):=by
 unfold lwC
 refine jC Tryz.func262 Tryz.ntmps262 (fun w0 β0 ext hβ=>?_)
 repeat (first|refine jS ?_|refine jD ?_|refine jB ?_)
 exact jend [] true rfl rfl rfl ⟨rfl,rfl⟩
theorem lm_zero (t:Thr) (s:Int) (i:Ins) (ha0:0≤i.a) (ha8:i.a < 8):ACalls Tryz.prog 263 [.ptr 0 0] [.box 314 (lwC t s i)] (one (.tup []) [.box 314 (lwC (cond (decide (rg t i.a=0)) { t with pc:=i.b } t) s i)]):=by
 have hg:=lw_get t s i ha0 ha8
 have hd:(rg t i.a == 0)=decide (rg t i.a=0):=rfl
 unfold lwC at *
 refine jC Tryz.func263 Tryz.ntmps263 (fun w0 β0 ext hβ=>?_)
 repeat (first|refine jS ?_|refine jD ?_|refine jB ?_|refine jo rfl rfl (index_arr rfl rfl rfl rfl rfl ha0 ha8) rfl rfl ?_|refine jo rfl rfl (load_dsem (r:=ty3) rfl rfl rfl hg) rfl rfl ?_)
 rw [hd]
 cases decide (rg t i.a=0)
 all_goals (
  repeat (first|refine jS ?_|refine jD ?_|refine jB ?_)
 )
 all_goals exact jend [] true rfl rfl rfl ⟨rfl,rfl⟩
theorem lm_some (t:Thr) (s:Int) (i:Ins) (ha0:0≤i.a) (ha8:i.a < 8):ACalls Tryz.prog 264 [.ptr 0 0] [.box 314 (lwC t s i)] (one (.tup []) [.box 314 (lwC (cond (decide (rg t i.a=0)) t { t with pc:=i.b }) s i)]):=by
 have hg:=lw_get t s i ha0 ha8
 have hd:(rg t i.a != 0) = !decide (rg t i.a=0):=rfl
 unfold lwC at *
 refine jC Tryz.func264 Tryz.ntmps264 (fun w0 β0 ext hβ=>?_)
 repeat (first|refine jS ?_|refine jD ?_|refine jB ?_|refine jo rfl rfl (index_arr rfl rfl rfl rfl rfl ha0 ha8) rfl rfl ?_|refine jo rfl rfl (load_dsem (r:=ty3) rfl rfl rfl hg) rfl rfl ?_)
 rw [hd]
 cases decide (rg t i.a=0)
 all_goals (
  repeat (first|refine jS ?_|refine jD ?_|refine jB ?_)
 )
 all_goals exact jend [] true rfl rfl rfl ⟨rfl,rfl⟩
end Go.AL
end
section
set_option maxRecDepth 100000
namespace Go.AL
open Go Go.Proofs
attribute [local irreducible] J
theorem all_take1 {p:Int→Bool} {a b c:Int} (h:([a,b,c].take 1).all p=true):p a=true:=by simpa using h
theorem all_take2 {p:Int→Bool} {a b c:Int} (h:([a,b,c].take 2).all p=true):p a=true∧p b=true:=by simpa using h
theorem all_take3 {p:Int→Bool} {a b c:Int} (h:([a,b,c].take 3).all p=true):p a=true∧p b=true∧p c=true:=by simpa using h
theorem inn7 {v:Int} (h:inn v 0 7=true):0≤v∧v < 8:=by have:=inn_iff.1 h;omega
theorem inn15 {v:Int} (h:inn v 1 15=true):v=1∨v=2∨v=3∨v=4∨v=5∨v=6∨v=7∨v=8∨v=9∨v=10∨v=11∨v=12∨v=13∨v=14∨v=15:=by
 have:=inn_iff.1 h;omega
theorem loReady_of (t:Thr) (s:Int):loReady t s=1∨loReady t s=9∨(loReady t s=0∧thRight t=true):=by
 unfold loReady
 cases thRight t<;>cases inn s 0 7<;>cases decide (t.state=0)<;>cases decide (0 < t.left.length)<;>simp
def loGo (s:Int) (i:Ins) (t:Thr):Thr × Int :=
 cond (!loMay i) (thr0,3) (cond (decide (i.op=13)) (frCall t i.a) (cond (decide (i.op=14)) (frBack t) (loDo s i { t with pc:=t.pc+1 },0)))
theorem ap_1 (t:Thr) (s a b c:Int) (hf:t.frames.length≤1000) (hl:t.left.length≤1000000) (hr:loReady t s=0) (hp:0≤t.pc∧t.pc≤1000) (h10:(t.pc == 1000)=false) :
  ACalls Tryz.prog 190 [encThr t,iv s,.agg [iv 1,iv a,iv b,iv c]] [] (one (.tup [resThr (loGo s ⟨1,a,b,c⟩ t),iv (loGo s ⟨1,a,b,c⟩ t).2]) []):=by
 have h1:=ready_ok t s (by omega) hl
 rw [hr] at h1
 have h2:=lin_ok 1 1 15
 have h3:=all_ok
 have h4:ACalls Tryz.prog 227 [.agg [iv 1,iv (-1),fnA 253],.agg [iv 1,iv a,iv b,iv c]] [] (one (bv (loMay ⟨1,a,b,c⟩)) []):=lmay_ok 1 (-1) (fnA 253) ⟨1,a,b,c⟩ (by decide) (by decide) (.inr ⟨_,rfl⟩)
 have hw:IntKind.i64.wrap (t.pc+1)=t.pc+1:=by rw [wrap_id]<;>omega
 unfold loGo
 unfold encThr thCells at *
 cases hm:loMay ⟨1,a,b,c⟩ with
 | false =>
  rw [hm] at h4
  refine jC Tryz.func190 Tryz.ntmps190 (fun w0 β0 ext hβ=>?_)
  repeat (first|refine jS ?_|refine jD ?_|refine jB ?_|refine jV h1 ?_)
  rw [h10]
  repeat (first|refine jS ?_|refine jD ?_|refine jB ?_|refine jV h3 ?_|refine jV h2 ?_|refine jo rfl rfl (index_arr rfl rfl rfl rfl rfl (by decide) (by decide)) rfl rfl ?_|refine jV h4 ?_)
  exact jR
 | true =>
  rw [hm] at h4
  have hm2:=(Bool.and_eq_true _ _ ▸ (show (([a,b,c].take 1).all (fun k=>inn k 0 7)&&_)=true from hm)).1
  have ra:=inn7 (all_take1 (p:=fun k=>inn k 0 7) hm2)
  have h5:=lm_load { t with pc:=t.pc+1 } s ⟨1,a,b,c⟩ ra.1 ra.2
  unfold lwC at h5
  refine jC Tryz.func190 Tryz.ntmps190 (fun w0 β0 ext hβ=>?_)
  repeat (first|refine jS ?_|refine jD ?_|refine jB ?_|refine jV h1 ?_)
  rw [h10]
  repeat (first|refine jS ?_|refine jD ?_|refine jB ?_|refine jV h3 ?_|refine jV h2 ?_|refine jo rfl rfl (index_arr rfl rfl rfl rfl rfl (by decide) (by decide)) rfl rfl ?_|refine jV h4 ?_)
  rw [hw]
  repeat (first|refine jS ?_|refine jD ?_|refine jB ?_|refine jo rfl rfl (index_arr rfl rfl rfl rfl rfl (by decide) (by decide)) rfl rfl ?_)
  refine jBb [4] h5 ?_
  repeat (first|refine jS ?_|refine jD ?_|refine jB ?_)
  exact jR
theorem ap_2 (t:Thr) (s a b c:Int) (hf:t.frames.length≤1000) (hl:t.left.length≤1000000) (hr:loReady t s=0) (hp:0≤t.pc∧t.pc≤1000) (h10:(t.pc == 1000)=false) :
  ACalls Tryz.prog 190 [encThr t,iv s,.agg [iv 2,iv a,iv b,iv c]] [] (one (.tup [resThr (loGo s ⟨2,a,b,c⟩ t),iv (loGo s ⟨2,a,b,c⟩ t).2]) []):=by
 have h1:=ready_ok t s (by omega) hl
 rw [hr] at h1
 have h2:=lin_ok 2 1 15
 have h3:=all_ok
 have h4:ACalls Tryz.prog 227 [.agg [iv 2,iv (-1),fnA 254],.agg [iv 2,iv a,iv b,iv c]] [] (one (bv (loMay ⟨2,a,b,c⟩)) []):=lmay_ok 2 (-1) (fnA 254) ⟨2,a,b,c⟩ (by decide) (by decide) (.inr ⟨_,rfl⟩)
 have hw:IntKind.i64.wrap (t.pc+1)=t.pc+1:=by rw [wrap_id]<;>omega
 unfold loGo
 unfold encThr thCells at *
 cases hm:loMay ⟨2,a,b,c⟩ with
 | false =>
  rw [hm] at h4
  refine jC Tryz.func190 Tryz.ntmps190 (fun w0 β0 ext hβ=>?_)
  repeat (first|refine jS ?_|refine jD ?_|refine jB ?_|refine jV h1 ?_)
  rw [h10]
  repeat (first|refine jS ?_|refine jD ?_|refine jB ?_|refine jV h3 ?_|refine jV h2 ?_|refine jo rfl rfl (index_arr rfl rfl rfl rfl rfl (by decide) (by decide)) rfl rfl ?_|refine jV h4 ?_)
  exact jR
 | true =>
  rw [hm] at h4
  have hm2:=(Bool.and_eq_true _ _ ▸ (show (([a,b,c].take 2).all (fun k=>inn k 0 7)&&_)=true from hm)).1
  obtain ⟨ra,rb⟩:=all_take2 (p:=fun k=>inn k 0 7) hm2
  have ra:=inn7 ra
  have rb:=inn7 rb
  have h5:=lm_move { t with pc:=t.pc+1 } s ⟨2,a,b,c⟩ ra.1 ra.2 rb.1 rb.2
  unfold lwC at h5
  refine jC Tryz.func190 Tryz.ntmps190 (fun w0 β0 ext hβ=>?_)
  repeat (first|refine jS ?_|refine jD ?_|refine jB ?_|refine jV h1 ?_)
  rw [h10]
  repeat (first|refine jS ?_|refine jD ?_|refine jB ?_|refine jV h3 ?_|refine jV h2 ?_|refine jo rfl rfl (index_arr rfl rfl rfl rfl rfl (by decide) (by decide)) rfl rfl ?_|refine jV h4 ?_)
  rw [hw]
  repeat (first|refine jS ?_|refine jD ?_|refine jB ?_|refine jo rfl rfl (index_arr rfl rfl rfl rfl rfl (by decide) (by decide)) rfl rfl ?_)
  refine jBb [4] h5 ?_
  repeat (first|refine jS ?_|refine jD ?_|refine jB ?_)
  exact jR
theorem ap_3 (t:Thr) (s a b c:Int) (hf:t.frames.length≤1000) (hl:t.left.length≤1000000) (hr:loReady t s=0) (hp:0≤t.pc∧t.pc≤1000) (h10:(t.pc == 1000)=false) :
  ACalls Tryz.prog 190 [encThr t,iv s,.agg [iv 3,iv a,iv b,iv c]] [] (one (.tup [resThr (loGo s ⟨3,a,b,c⟩ t),iv (loGo s ⟨3,a,b,c⟩ t).2]) []):=by
 have h1:=ready_ok t s (by omega) hl
 rw [hr] at h1
 have h2:=lin_ok 3 1 15
 have h3:=all_ok
 have h4:ACalls Tryz.prog 227 [.agg [iv 2,iv (-1),fnA 255],.agg [iv 3,iv a,iv b,iv c]] [] (one (bv (loMay ⟨3,a,b,c⟩)) []):=lmay_ok 2 (-1) (fnA 255) ⟨3,a,b,c⟩ (by decide) (by decide) (.inr ⟨_,rfl⟩)
 have hw:IntKind.i64.wrap (t.pc+1)=t.pc+1:=by rw [wrap_id]<;>omega
 unfold loGo
 unfold encThr thCells at *
 cases hm:loMay ⟨3,a,b,c⟩ with
 | false =>
  rw [hm] at h4
  refine jC Tryz.func190 Tryz.ntmps190 (fun w0 β0 ext hβ=>?_)
  repeat (first|refine jS ?_|refine jD ?_|refine jB ?_|refine jV h1 ?_)
  rw [h10]
  repeat (first|refine jS ?_|refine jD ?_|refine jB ?_|refine jV h3 ?_|refine jV h2 ?_|refine jo rfl rfl (index_arr rfl rfl rfl rfl rfl (by decide) (by decide)) rfl rfl ?_|refine jV h4 ?_)
  exact jR
 | true =>
  rw [hm] at h4
  have hm2:=(Bool.and_eq_true _ _ ▸ (show (([a,b,c].take 2).all (fun k=>inn k 0 7)&&_)=true from hm)).1
  obtain ⟨ra,rb⟩:=all_take2 (p:=fun k=>inn k 0 7) hm2
  have ra:=inn7 ra
  have rb:=inn7 rb
  have h5:=lm_plus { t with pc:=t.pc+1 } s ⟨3,a,b,c⟩ ra.1 ra.2 rb.1 rb.2
  unfold lwC at h5
  refine jC Tryz.func190 Tryz.ntmps190 (fun w0 β0 ext hβ=>?_)
  repeat (first|refine jS ?_|refine jD ?_|refine jB ?_|refine jV h1 ?_)
  rw [h10]
  repeat (first|refine jS ?_|refine jD ?_|refine jB ?_|refine jV h3 ?_|refine jV h2 ?_|refine jo rfl rfl (index_arr rfl rfl rfl rfl rfl (by decide) (by decide)) rfl rfl ?_|refine jV h4 ?_)
  rw [hw]
  repeat (first|refine jS ?_|refine jD ?_|refine jB ?_|refine jo rfl rfl (index_arr rfl rfl rfl rfl rfl (by decide) (by decide)) rfl rfl ?_)
  refine jBb [4] h5 ?_
  repeat (first|refine jS ?_|refine jD ?_|refine jB ?_)
  exact jR
theorem ap_4 (t:Thr) (s a b c:Int) (hf:t.frames.length≤1000) (hl:t.left.length≤1000000) (hr:loReady t s=0) (hp:0≤t.pc∧t.pc≤1000) (h10:(t.pc == 1000)=false) :
  ACalls Tryz.prog 190 [encThr t,iv s,.agg [iv 4,iv a,iv b,iv c]] [] (one (.tup [resThr (loGo s ⟨4,a,b,c⟩ t),iv (loGo s ⟨4,a,b,c⟩ t).2]) []):=by
 have h1:=ready_ok t s (by omega) hl
 rw [hr] at h1
 have h2:=lin_ok 4 1 15
 have h3:=all_ok
 have h4:ACalls Tryz.prog 227 [.agg [iv 2,iv (-1),fnA 256],.agg [iv 4,iv a,iv b,iv c]] [] (one (bv (loMay ⟨4,a,b,c⟩)) []):=lmay_ok 2 (-1) (fnA 256) ⟨4,a,b,c⟩ (by decide) (by decide) (.inr ⟨_,rfl⟩)
 have hw:IntKind.i64.wrap (t.pc+1)=t.pc+1:=by rw [wrap_id]<;>omega
 unfold loGo
 unfold encThr thCells at *
 cases hm:loMay ⟨4,a,b,c⟩ with
 | false =>
  rw [hm] at h4
  refine jC Tryz.func190 Tryz.ntmps190 (fun w0 β0 ext hβ=>?_)
  repeat (first|refine jS ?_|refine jD ?_|refine jB ?_|refine jV h1 ?_)
  rw [h10]
  repeat (first|refine jS ?_|refine jD ?_|refine jB ?_|refine jV h3 ?_|refine jV h2 ?_|refine jo rfl rfl (index_arr rfl rfl rfl rfl rfl (by decide) (by decide)) rfl rfl ?_|refine jV h4 ?_)
  exact jR
 | true =>
  rw [hm] at h4
  have hm2:=(Bool.and_eq_true _ _ ▸ (show (([a,b,c].take 2).all (fun k=>inn k 0 7)&&_)=true from hm)).1
  obtain ⟨ra,rb⟩:=all_take2 (p:=fun k=>inn k 0 7) hm2
  have ra:=inn7 ra
  have rb:=inn7 rb
  have h5:=lm_mask { t with pc:=t.pc+1 } s ⟨4,a,b,c⟩ ra.1 ra.2 rb.1 rb.2
  unfold lwC at h5
  refine jC Tryz.func190 Tryz.ntmps190 (fun w0 β0 ext hβ=>?_)
  repeat (first|refine jS ?_|refine jD ?_|refine jB ?_|refine jV h1 ?_)
  rw [h10]
  repeat (first|refine jS ?_|refine jD ?_|refine jB ?_|refine jV h3 ?_|refine jV h2 ?_|refine jo rfl rfl (index_arr rfl rfl rfl rfl rfl (by decide) (by decide)) rfl rfl ?_|refine jV h4 ?_)
  rw [hw]
  repeat (first|refine jS ?_|refine jD ?_|refine jB ?_|refine jo rfl rfl (index_arr rfl rfl rfl rfl rfl (by decide) (by decide)) rfl rfl ?_)
  refine jBb [4] h5 ?_
  repeat (first|refine jS ?_|refine jD ?_|refine jB ?_)
  exact jR
theorem ap_5 (t:Thr) (s a b c:Int) (hf:t.frames.length≤1000) (hl:t.left.length≤1000000) (hr:loReady t s=0) (hp:0≤t.pc∧t.pc≤1000) (h10:(t.pc == 1000)=false) :
  ACalls Tryz.prog 190 [encThr t,iv s,.agg [iv 5,iv a,iv b,iv c]] [] (one (.tup [resThr (loGo s ⟨5,a,b,c⟩ t),iv (loGo s ⟨5,a,b,c⟩ t).2]) []):=by
 have h1:=ready_ok t s (by omega) hl
 rw [hr] at h1
 have h2:=lin_ok 5 1 15
 have h3:=all_ok
 have h4:ACalls Tryz.prog 227 [.agg [iv 3,iv (-1),fnA 257],.agg [iv 5,iv a,iv b,iv c]] [] (one (bv (loMay ⟨5,a,b,c⟩)) []):=lmay_ok 3 (-1) (fnA 257) ⟨5,a,b,c⟩ (by decide) (by decide) (.inr ⟨_,rfl⟩)
 have hw:IntKind.i64.wrap (t.pc+1)=t.pc+1:=by rw [wrap_id]<;>omega
 unfold loGo
 unfold encThr thCells at *
 cases hm:loMay ⟨5,a,b,c⟩ with
 | false =>
  rw [hm] at h4
  refine jC Tryz.func190 Tryz.ntmps190 (fun w0 β0 ext hβ=>?_)
  repeat (first|refine jS ?_|refine jD ?_|refine jB ?_|refine jV h1 ?_)
  rw [h10]
  repeat (first|refine jS ?_|refine jD ?_|refine jB ?_|refine jV h3 ?_|refine jV h2 ?_|refine jo rfl rfl (index_arr rfl rfl rfl rfl rfl (by decide) (by decide)) rfl rfl ?_|refine jV h4 ?_)
  exact jR
 | true =>
  rw [hm] at h4
  have hm2:=(Bool.and_eq_true _ _ ▸ (show (([a,b,c].take 3).all (fun k=>inn k 0 7)&&_)=true from hm)).1
  obtain ⟨ra,rb,rc⟩:=all_take3 (p:=fun k=>inn k 0 7) hm2
  have ra:=inn7 ra
  have rb:=inn7 rb
  have rc:=inn7 rc
  have h5:=lm_add { t with pc:=t.pc+1 } s ⟨5,a,b,c⟩ ra.1 ra.2 rb.1 rb.2 rc.1 rc.2
  unfold lwC at h5
  refine jC Tryz.func190 Tryz.ntmps190 (fun w0 β0 ext hβ=>?_)
  repeat (first|refine jS ?_|refine jD ?_|refine jB ?_|refine jV h1 ?_)
  rw [h10]
  repeat (first|refine jS ?_|refine jD ?_|refine jB ?_|refine jV h3 ?_|refine jV h2 ?_|refine jo rfl rfl (index_arr rfl rfl rfl rfl rfl (by decide) (by decide)) rfl rfl ?_|refine jV h4 ?_)
  rw [hw]
  repeat (first|refine jS ?_|refine jD ?_|refine jB ?_|refine jo rfl rfl (index_arr rfl rfl rfl rfl rfl (by decide) (by decide)) rfl rfl ?_)
  refine jBb [4] h5 ?_
  repeat (first|refine jS ?_|refine jD ?_|refine jB ?_)
  exact jR
theorem ap_6 (t:Thr) (s a b c:Int) (hf:t.frames.length≤1000) (hl:t.left.length≤1000000) (hr:loReady t s=0) (hp:0≤t.pc∧t.pc≤1000) (h10:(t.pc == 1000)=false) :
  ACalls Tryz.prog 190 [encThr t,iv s,.agg [iv 6,iv a,iv b,iv c]] [] (one (.tup [resThr (loGo s ⟨6,a,b,c⟩ t),iv (loGo s ⟨6,a,b,c⟩ t).2]) []):=by
 have h1:=ready_ok t s (by omega) hl
 rw [hr] at h1
 have h2:=lin_ok 6 1 15
 have h3:=all_ok
 have h4:ACalls Tryz.prog 227 [.agg [iv 3,iv (-1),fnA 258],.agg [iv 6,iv a,iv b,iv c]] [] (one (bv (loMay ⟨6,a,b,c⟩)) []):=lmay_ok 3 (-1) (fnA 258) ⟨6,a,b,c⟩ (by decide) (by decide) (.inr ⟨_,rfl⟩)
 have hw:IntKind.i64.wrap (t.pc+1)=t.pc+1:=by rw [wrap_id]<;>omega
 unfold loGo
 unfold encThr thCells at *
 cases hm:loMay ⟨6,a,b,c⟩ with
 | false =>
  rw [hm] at h4
  refine jC Tryz.func190 Tryz.ntmps190 (fun w0 β0 ext hβ=>?_)
  repeat (first|refine jS ?_|refine jD ?_|refine jB ?_|refine jV h1 ?_)
  rw [h10]
  repeat (first|refine jS ?_|refine jD ?_|refine jB ?_|refine jV h3 ?_|refine jV h2 ?_|refine jo rfl rfl (index_arr rfl rfl rfl rfl rfl (by decide) (by decide)) rfl rfl ?_|refine jV h4 ?_)
  exact jR
 | true =>
  rw [hm] at h4
  have hm2:=(Bool.and_eq_true _ _ ▸ (show (([a,b,c].take 3).all (fun k=>inn k 0 7)&&_)=true from hm)).1
  obtain ⟨ra,rb,rc⟩:=all_take3 (p:=fun k=>inn k 0 7) hm2
  have ra:=inn7 ra
  have rb:=inn7 rb
  have rc:=inn7 rc
  have h5:=lm_sub { t with pc:=t.pc+1 } s ⟨6,a,b,c⟩ ra.1 ra.2 rb.1 rb.2 rc.1 rc.2
  unfold lwC at h5
  refine jC Tryz.func190 Tryz.ntmps190 (fun w0 β0 ext hβ=>?_)
  repeat (first|refine jS ?_|refine jD ?_|refine jB ?_|refine jV h1 ?_)
  rw [h10]
  repeat (first|refine jS ?_|refine jD ?_|refine jB ?_|refine jV h3 ?_|refine jV h2 ?_|refine jo rfl rfl (index_arr rfl rfl rfl rfl rfl (by decide) (by decide)) rfl rfl ?_|refine jV h4 ?_)
  rw [hw]
  repeat (first|refine jS ?_|refine jD ?_|refine jB ?_|refine jo rfl rfl (index_arr rfl rfl rfl rfl rfl (by decide) (by decide)) rfl rfl ?_)
  refine jBb [4] h5 ?_
  repeat (first|refine jS ?_|refine jD ?_|refine jB ?_)
  exact jR
theorem ap_7 (t:Thr) (s a b c:Int) (hf:t.frames.length≤1000) (hl:t.left.length≤1000000) (hr:loReady t s=0) (hp:0≤t.pc∧t.pc≤1000) (h10:(t.pc == 1000)=false) :
  ACalls Tryz.prog 190 [encThr t,iv s,.agg [iv 7,iv a,iv b,iv c]] [] (one (.tup [resThr (loGo s ⟨7,a,b,c⟩ t),iv (loGo s ⟨7,a,b,c⟩ t).2]) []):=by
 have h1:=ready_ok t s (by omega) hl
 rw [hr] at h1
 have h2:=lin_ok 7 1 15
 have h3:=all_ok
 have h4:ACalls Tryz.prog 227 [.agg [iv 3,iv (-1),fnA 259],.agg [iv 7,iv a,iv b,iv c]] [] (one (bv (loMay ⟨7,a,b,c⟩)) []):=lmay_ok 3 (-1) (fnA 259) ⟨7,a,b,c⟩ (by decide) (by decide) (.inr ⟨_,rfl⟩)
 have hw:IntKind.i64.wrap (t.pc+1)=t.pc+1:=by rw [wrap_id]<;>omega
 unfold loGo
 unfold encThr thCells at *
 cases hm:loMay ⟨7,a,b,c⟩ with
 | false =>
  rw [hm] at h4
  refine jC Tryz.func190 Tryz.ntmps190 (fun w0 β0 ext hβ=>?_)
  repeat (first|refine jS ?_|refine jD ?_|refine jB ?_|refine jV h1 ?_)
  rw [h10]
  repeat (first|refine jS ?_|refine jD ?_|refine jB ?_|refine jV h3 ?_|refine jV h2 ?_|refine jo rfl rfl (index_arr rfl rfl rfl rfl rfl (by decide) (by decide)) rfl rfl ?_|refine jV h4 ?_)
  exact jR
 | true =>
  rw [hm] at h4
  have hm2:=(Bool.and_eq_true _ _ ▸ (show (([a,b,c].take 3).all (fun k=>inn k 0 7)&&_)=true from hm)).1
  obtain ⟨ra,rb,rc⟩:=all_take3 (p:=fun k=>inn k 0 7) hm2
  have ra:=inn7 ra
  have rb:=inn7 rb
  have rc:=inn7 rc
  have h5:=lm_and { t with pc:=t.pc+1 } s ⟨7,a,b,c⟩ ra.1 ra.2 rb.1 rb.2 rc.1 rc.2
  unfold lwC at h5
  refine jC Tryz.func190 Tryz.ntmps190 (fun w0 β0 ext hβ=>?_)
  repeat (first|refine jS ?_|refine jD ?_|refine jB ?_|refine jV h1 ?_)
  rw [h10]
  repeat (first|refine jS ?_|refine jD ?_|refine jB ?_|refine jV h3 ?_|refine jV h2 ?_|refine jo rfl rfl (index_arr rfl rfl rfl rfl rfl (by decide) (by decide)) rfl rfl ?_|refine jV h4 ?_)
  rw [hw]
  repeat (first|refine jS ?_|refine jD ?_|refine jB ?_|refine jo rfl rfl (index_arr rfl rfl rfl rfl rfl (by decide) (by decide)) rfl rfl ?_)
  refine jBb [4] h5 ?_
  repeat (first|refine jS ?_|refine jD ?_|refine jB ?_)
  exact jR
theorem ap_8 (t:Thr) (s a b c:Int) (hf:t.frames.length≤1000) (hl:t.left.length≤1000000) (hr:loReady t s=0) (hp:0≤t.pc∧t.pc≤1000) (h10:(t.pc == 1000)=false) :
  ACalls Tryz.prog 190 [encThr t,iv s,.agg [iv 8,iv a,iv b,iv c]] [] (one (.tup [resThr (loGo s ⟨8,a,b,c⟩ t),iv (loGo s ⟨8,a,b,c⟩ t).2]) []):=by
 have h1:=ready_ok t s (by omega) hl
 rw [hr] at h1
 have h2:=lin_ok 8 1 15
 have h3:=all_ok
 have h4:ACalls Tryz.prog 227 [.agg [iv 3,iv (-1),fnA 260],.agg [iv 8,iv a,iv b,iv c]] [] (one (bv (loMay ⟨8,a,b,c⟩)) []):=lmay_ok 3 (-1) (fnA 260) ⟨8,a,b,c⟩ (by decide) (by decide) (.inr ⟨_,rfl⟩)
 have hw:IntKind.i64.wrap (t.pc+1)=t.pc+1:=by rw [wrap_id]<;>omega
 unfold loGo
 unfold encThr thCells at *
 cases hm:loMay ⟨8,a,b,c⟩ with
 | false =>
  rw [hm] at h4
  refine jC Tryz.func190 Tryz.ntmps190 (fun w0 β0 ext hβ=>?_)
  repeat (first|refine jS ?_|refine jD ?_|refine jB ?_|refine jV h1 ?_)
  rw [h10]
  repeat (first|refine jS ?_|refine jD ?_|refine jB ?_|refine jV h3 ?_|refine jV h2 ?_|refine jo rfl rfl (index_arr rfl rfl rfl rfl rfl (by decide) (by decide)) rfl rfl ?_|refine jV h4 ?_)
  exact jR
 | true =>
  rw [hm] at h4
  have hm2:=(Bool.and_eq_true _ _ ▸ (show (([a,b,c].take 3).all (fun k=>inn k 0 7)&&_)=true from hm)).1
  obtain ⟨ra,rb,rc⟩:=all_take3 (p:=fun k=>inn k 0 7) hm2
  have ra:=inn7 ra
  have rb:=inn7 rb
  have rc:=inn7 rc
  have h5:=lm_xor { t with pc:=t.pc+1 } s ⟨8,a,b,c⟩ ra.1 ra.2 rb.1 rb.2 rc.1 rc.2
  unfold lwC at h5
  refine jC Tryz.func190 Tryz.ntmps190 (fun w0 β0 ext hβ=>?_)
  repeat (first|refine jS ?_|refine jD ?_|refine jB ?_|refine jV h1 ?_)
  rw [h10]
  repeat (first|refine jS ?_|refine jD ?_|refine jB ?_|refine jV h3 ?_|refine jV h2 ?_|refine jo rfl rfl (index_arr rfl rfl rfl rfl rfl (by decide) (by decide)) rfl rfl ?_|refine jV h4 ?_)
  rw [hw]
  repeat (first|refine jS ?_|refine jD ?_|refine jB ?_|refine jo rfl rfl (index_arr rfl rfl rfl rfl rfl (by decide) (by decide)) rfl rfl ?_)
  refine jBb [4] h5 ?_
  repeat (first|refine jS ?_|refine jD ?_|refine jB ?_)
  exact jR
theorem ap_9 (t:Thr) (s a b c:Int) (hf:t.frames.length≤1000) (hl:t.left.length≤1000000) (hr:loReady t s=0) (hp:0≤t.pc∧t.pc≤1000) (h10:(t.pc == 1000)=false) :
  ACalls Tryz.prog 190 [encThr t,iv s,.agg [iv 9,iv a,iv b,iv c]] [] (one (.tup [resThr (loGo s ⟨9,a,b,c⟩ t),iv (loGo s ⟨9,a,b,c⟩ t).2]) []):=by
 have h1:=ready_ok t s (by omega) hl
 rw [hr] at h1
 have h2:=lin_ok 9 1 15
 have h3:=all_ok
 have h4:ACalls Tryz.prog 227 [.agg [iv 3,iv (-1),fnA 261],.agg [iv 9,iv a,iv b,iv c]] [] (one (bv (loMay ⟨9,a,b,c⟩)) []):=lmay_ok 3 (-1) (fnA 261) ⟨9,a,b,c⟩ (by decide) (by decide) (.inr ⟨_,rfl⟩)
 have hw:IntKind.i64.wrap (t.pc+1)=t.pc+1:=by rw [wrap_id]<;>omega
 unfold loGo
 unfold encThr thCells at *
 cases hm:loMay ⟨9,a,b,c⟩ with
 | false =>
  rw [hm] at h4
  refine jC Tryz.func190 Tryz.ntmps190 (fun w0 β0 ext hβ=>?_)
  repeat (first|refine jS ?_|refine jD ?_|refine jB ?_|refine jV h1 ?_)
  rw [h10]
  repeat (first|refine jS ?_|refine jD ?_|refine jB ?_|refine jV h3 ?_|refine jV h2 ?_|refine jo rfl rfl (index_arr rfl rfl rfl rfl rfl (by decide) (by decide)) rfl rfl ?_|refine jV h4 ?_)
  exact jR
 | true =>
  rw [hm] at h4
  have hm2:=(Bool.and_eq_true _ _ ▸ (show (([a,b,c].take 3).all (fun k=>inn k 0 7)&&_)=true from hm)).1
  obtain ⟨ra,rb,rc⟩:=all_take3 (p:=fun k=>inn k 0 7) hm2
  have ra:=inn7 ra
  have rb:=inn7 rb
  have rc:=inn7 rc
  have h5:=lm_less { t with pc:=t.pc+1 } s ⟨9,a,b,c⟩ ra.1 ra.2 rb.1 rb.2 rc.1 rc.2
  unfold lwC at h5
  refine jC Tryz.func190 Tryz.ntmps190 (fun w0 β0 ext hβ=>?_)
  repeat (first|refine jS ?_|refine jD ?_|refine jB ?_|refine jV h1 ?_)
  rw [h10]
  repeat (first|refine jS ?_|refine jD ?_|refine jB ?_|refine jV h3 ?_|refine jV h2 ?_|refine jo rfl rfl (index_arr rfl rfl rfl rfl rfl (by decide) (by decide)) rfl rfl ?_|refine jV h4 ?_)
  rw [hw]
  repeat (first|refine jS ?_|refine jD ?_|refine jB ?_|refine jo rfl rfl (index_arr rfl rfl rfl rfl rfl (by decide) (by decide)) rfl rfl ?_)
  refine jBb [4] h5 ?_
  repeat (first|refine jS ?_|refine jD ?_|refine jB ?_)
  exact jR
theorem ap_10 (t:Thr) (s a b c:Int) (hf:t.frames.length≤1000) (hl:t.left.length≤1000000) (hr:loReady t s=0) (hp:0≤t.pc∧t.pc≤1000) (h10:(t.pc == 1000)=false) :
  ACalls Tryz.prog 190 [encThr t,iv s,.agg [iv 10,iv a,iv b,iv c]] [] (one (.tup [resThr (loGo s ⟨10,a,b,c⟩ t),iv (loGo s ⟨10,a,b,c⟩ t).2]) []):=by
 have h1:=ready_ok t s (by omega) hl
 rw [hr] at h1
 have h2:=lin_ok 10 1 15
 have h3:=all_ok
 have h4:ACalls Tryz.prog 227 [.agg [iv 0,iv 0,fnA 262],.agg [iv 10,iv a,iv b,iv c]] [] (one (bv (loMay ⟨10,a,b,c⟩)) []):=lmay_ok 0 0 (fnA 262) ⟨10,a,b,c⟩ (by decide) (by decide) (.inr ⟨_,rfl⟩)
 have hw:IntKind.i64.wrap (t.pc+1)=t.pc+1:=by rw [wrap_id]<;>omega
 unfold loGo
 unfold encThr thCells at *
 cases hm:loMay ⟨10,a,b,c⟩ with
 | false =>
  rw [hm] at h4
  refine jC Tryz.func190 Tryz.ntmps190 (fun w0 β0 ext hβ=>?_)
  repeat (first|refine jS ?_|refine jD ?_|refine jB ?_|refine jV h1 ?_)
  rw [h10]
  repeat (first|refine jS ?_|refine jD ?_|refine jB ?_|refine jV h3 ?_|refine jV h2 ?_|refine jo rfl rfl (index_arr rfl rfl rfl rfl rfl (by decide) (by decide)) rfl rfl ?_|refine jV h4 ?_)
  exact jR
 | true =>
  rw [hm] at h4
  have h5:=lm_jump { t with pc:=t.pc+1 } s ⟨10,a,b,c⟩
  unfold lwC at h5
  refine jC Tryz.func190 Tryz.ntmps190 (fun w0 β0 ext hβ=>?_)
  repeat (first|refine jS ?_|refine jD ?_|refine jB ?_|refine jV h1 ?_)
  rw [h10]
  repeat (first|refine jS ?_|refine jD ?_|refine jB ?_|refine jV h3 ?_|refine jV h2 ?_|refine jo rfl rfl (index_arr rfl rfl rfl rfl rfl (by decide) (by decide)) rfl rfl ?_|refine jV h4 ?_)
  rw [hw]
  repeat (first|refine jS ?_|refine jD ?_|refine jB ?_|refine jo rfl rfl (index_arr rfl rfl rfl rfl rfl (by decide) (by decide)) rfl rfl ?_)
  refine jBb [4] h5 ?_
  repeat (first|refine jS ?_|refine jD ?_|refine jB ?_)
  exact jR
theorem ap_11 (t:Thr) (s a b c:Int) (hf:t.frames.length≤1000) (hl:t.left.length≤1000000) (hr:loReady t s=0) (hp:0≤t.pc∧t.pc≤1000) (h10:(t.pc == 1000)=false) :
  ACalls Tryz.prog 190 [encThr t,iv s,.agg [iv 11,iv a,iv b,iv c]] [] (one (.tup [resThr (loGo s ⟨11,a,b,c⟩ t),iv (loGo s ⟨11,a,b,c⟩ t).2]) []):=by
 have h1:=ready_ok t s (by omega) hl
 rw [hr] at h1
 have h2:=lin_ok 11 1 15
 have h3:=all_ok
 have h4:ACalls Tryz.prog 227 [.agg [iv 1,iv 1,fnA 263],.agg [iv 11,iv a,iv b,iv c]] [] (one (bv (loMay ⟨11,a,b,c⟩)) []):=lmay_ok 1 1 (fnA 263) ⟨11,a,b,c⟩ (by decide) (by decide) (.inr ⟨_,rfl⟩)
 have hw:IntKind.i64.wrap (t.pc+1)=t.pc+1:=by rw [wrap_id]<;>omega
 unfold loGo
 unfold encThr thCells at *
 cases hm:loMay ⟨11,a,b,c⟩ with
 | false =>
  rw [hm] at h4
  refine jC Tryz.func190 Tryz.ntmps190 (fun w0 β0 ext hβ=>?_)
  repeat (first|refine jS ?_|refine jD ?_|refine jB ?_|refine jV h1 ?_)
  rw [h10]
  repeat (first|refine jS ?_|refine jD ?_|refine jB ?_|refine jV h3 ?_|refine jV h2 ?_|refine jo rfl rfl (index_arr rfl rfl rfl rfl rfl (by decide) (by decide)) rfl rfl ?_|refine jV h4 ?_)
  exact jR
 | true =>
  rw [hm] at h4
  have hm2:=(Bool.and_eq_true _ _ ▸ (show (([a,b,c].take 1).all (fun k=>inn k 0 7)&&_)=true from hm)).1
  have ra:=inn7 (all_take1 (p:=fun k=>inn k 0 7) hm2)
  have h5:=lm_zero { t with pc:=t.pc+1 } s ⟨11,a,b,c⟩ ra.1 ra.2
  unfold lwC at h5
  refine jC Tryz.func190 Tryz.ntmps190 (fun w0 β0 ext hβ=>?_)
  repeat (first|refine jS ?_|refine jD ?_|refine jB ?_|refine jV h1 ?_)
  rw [h10]
  repeat (first|refine jS ?_|refine jD ?_|refine jB ?_|refine jV h3 ?_|refine jV h2 ?_|refine jo rfl rfl (index_arr rfl rfl rfl rfl rfl (by decide) (by decide)) rfl rfl ?_|refine jV h4 ?_)
  rw [hw]
  repeat (first|refine jS ?_|refine jD ?_|refine jB ?_|refine jo rfl rfl (index_arr rfl rfl rfl rfl rfl (by decide) (by decide)) rfl rfl ?_)
  refine jBb [4] h5 ?_
  repeat (first|refine jS ?_|refine jD ?_|refine jB ?_)
  exact jR
theorem ap_12 (t:Thr) (s a b c:Int) (hf:t.frames.length≤1000) (hl:t.left.length≤1000000) (hr:loReady t s=0) (hp:0≤t.pc∧t.pc≤1000) (h10:(t.pc == 1000)=false) :
  ACalls Tryz.prog 190 [encThr t,iv s,.agg [iv 12,iv a,iv b,iv c]] [] (one (.tup [resThr (loGo s ⟨12,a,b,c⟩ t),iv (loGo s ⟨12,a,b,c⟩ t).2]) []):=by
 have h1:=ready_ok t s (by omega) hl
 rw [hr] at h1
 have h2:=lin_ok 12 1 15
 have h3:=all_ok
 have h4:ACalls Tryz.prog 227 [.agg [iv 1,iv 1,fnA 264],.agg [iv 12,iv a,iv b,iv c]] [] (one (bv (loMay ⟨12,a,b,c⟩)) []):=lmay_ok 1 1 (fnA 264) ⟨12,a,b,c⟩ (by decide) (by decide) (.inr ⟨_,rfl⟩)
 have hw:IntKind.i64.wrap (t.pc+1)=t.pc+1:=by rw [wrap_id]<;>omega
 unfold loGo
 unfold encThr thCells at *
 cases hm:loMay ⟨12,a,b,c⟩ with
 | false =>
  rw [hm] at h4
  refine jC Tryz.func190 Tryz.ntmps190 (fun w0 β0 ext hβ=>?_)
  repeat (first|refine jS ?_|refine jD ?_|refine jB ?_|refine jV h1 ?_)
  rw [h10]
  repeat (first|refine jS ?_|refine jD ?_|refine jB ?_|refine jV h3 ?_|refine jV h2 ?_|refine jo rfl rfl (index_arr rfl rfl rfl rfl rfl (by decide) (by decide)) rfl rfl ?_|refine jV h4 ?_)
  exact jR
 | true =>
  rw [hm] at h4
  have hm2:=(Bool.and_eq_true _ _ ▸ (show (([a,b,c].take 1).all (fun k=>inn k 0 7)&&_)=true from hm)).1
  have ra:=inn7 (all_take1 (p:=fun k=>inn k 0 7) hm2)
  have h5:=lm_some { t with pc:=t.pc+1 } s ⟨12,a,b,c⟩ ra.1 ra.2
  unfold lwC at h5
  refine jC Tryz.func190 Tryz.ntmps190 (fun w0 β0 ext hβ=>?_)
  repeat (first|refine jS ?_|refine jD ?_|refine jB ?_|refine jV h1 ?_)
  rw [h10]
  repeat (first|refine jS ?_|refine jD ?_|refine jB ?_|refine jV h3 ?_|refine jV h2 ?_|refine jo rfl rfl (index_arr rfl rfl rfl rfl rfl (by decide) (by decide)) rfl rfl ?_|refine jV h4 ?_)
  rw [hw]
  repeat (first|refine jS ?_|refine jD ?_|refine jB ?_|refine jo rfl rfl (index_arr rfl rfl rfl rfl rfl (by decide) (by decide)) rfl rfl ?_)
  refine jBb [4] h5 ?_
  repeat (first|refine jS ?_|refine jD ?_|refine jB ?_)
  exact jR
theorem ap_13 (t:Thr) (s a b c:Int) (hf:t.frames.length≤1000) (hl:t.left.length≤1000000) (hr:loReady t s=0) (hp:0≤t.pc∧t.pc≤1000) (h10:(t.pc == 1000)=false) :
  ACalls Tryz.prog 190 [encThr t,iv s,.agg [iv 13,iv a,iv b,iv c]] [] (one (.tup [resThr (loGo s ⟨13,a,b,c⟩ t),iv (loGo s ⟨13,a,b,c⟩ t).2]) []):=by
 have h1:=ready_ok t s (by omega) hl
 rw [hr] at h1
 have h2:=lin_ok 13 1 15
 have h3:=all_ok
 have h4:ACalls Tryz.prog 227 [.agg [iv 0,iv 0,.v .nilFunc],.agg [iv 13,iv a,iv b,iv c]] [] (one (bv (loMay ⟨13,a,b,c⟩)) []):=lmay_ok 0 0 (.v .nilFunc) ⟨13,a,b,c⟩ (by decide) (by decide) (.inl rfl)
 have hw:IntKind.i64.wrap (t.pc+1)=t.pc+1:=by rw [wrap_id]<;>omega
 unfold loGo
 have h5:=call_ok t a hf hl
 unfold encThr thCells at *
 cases hm:loMay ⟨13,a,b,c⟩ with
 | false =>
  rw [hm] at h4
  refine jC Tryz.func190 Tryz.ntmps190 (fun w0 β0 ext hβ=>?_)
  repeat (first|refine jS ?_|refine jD ?_|refine jB ?_|refine jV h1 ?_)
  rw [h10]
  repeat (first|refine jS ?_|refine jD ?_|refine jB ?_|refine jV h3 ?_|refine jV h2 ?_|refine jo rfl rfl (index_arr rfl rfl rfl rfl rfl (by decide) (by decide)) rfl rfl ?_|refine jV h4 ?_)
  exact jR
 | true =>
  rw [hm] at h4
  have hp2:∀ p:Thr × Int,p=frCall t a→ACalls Tryz.prog 190 [.agg (thCells t),iv s,.agg [iv 13,iv a,iv b,iv c]] [] (one (.tup [resThr p,iv p.2]) []):=fun p hp=>by
   rw [←hp] at h5
   obtain ⟨p1,e⟩:=p
   unfold thCells at *
   cases he:decide (e=0) with
   | true =>
    have hres:resThr (p1,e)=encThr p1:=by unfold resThr;rw [he];rfl
    rw [hres] at h5 ⊢
    unfold encThr thCells at *
    refine jC Tryz.func190 Tryz.ntmps190 (fun w0 β0 ext hβ=>?_)
    repeat (first|refine jS ?_|refine jD ?_|refine jB ?_|refine jV h1 ?_)
    rw [h10]
    repeat (first|refine jS ?_|refine jD ?_|refine jB ?_|refine jV h3 ?_|refine jV h2 ?_|refine jo rfl rfl (index_arr rfl rfl rfl rfl rfl (by decide) (by decide)) rfl rfl ?_|refine jV h4 ?_|refine jV h5 ?_)
    exact jR
   | false =>
    have hres:resThr (p1,e)=thrE0:=by unfold resThr;rw [he];rfl
    rw [hres] at h5 ⊢
    unfold thrE0 at *
    refine jC Tryz.func190 Tryz.ntmps190 (fun w0 β0 ext hβ=>?_)
    repeat (first|refine jS ?_|refine jD ?_|refine jB ?_|refine jV h1 ?_)
    rw [h10]
    repeat (first|refine jS ?_|refine jD ?_|refine jB ?_|refine jV h3 ?_|refine jV h2 ?_|refine jo rfl rfl (index_arr rfl rfl rfl rfl rfl (by decide) (by decide)) rfl rfl ?_|refine jV h4 ?_|refine jV h5 ?_)
    exact jR
  exact hp2 _ rfl
theorem ap_14 (t:Thr) (s a b c:Int) (hf:t.frames.length≤1000) (hl:t.left.length≤1000000) (hr:loReady t s=0) (hp:0≤t.pc∧t.pc≤1000) (h10:(t.pc == 1000)=false) :
  ACalls Tryz.prog 190 [encThr t,iv s,.agg [iv 14,iv a,iv b,iv c]] [] (one (.tup [resThr (loGo s ⟨14,a,b,c⟩ t),iv (loGo s ⟨14,a,b,c⟩ t).2]) []):=by
 have h1:=ready_ok t s (by omega) hl
 rw [hr] at h1
 have h2:=lin_ok 14 1 15
 have h3:=all_ok
 have h4:ACalls Tryz.prog 227 [.agg [iv 0,iv (-1),.v .nilFunc],.agg [iv 14,iv a,iv b,iv c]] [] (one (bv (loMay ⟨14,a,b,c⟩)) []):=lmay_ok 0 (-1) (.v .nilFunc) ⟨14,a,b,c⟩ (by decide) (by decide) (.inl rfl)
 have hw:IntKind.i64.wrap (t.pc+1)=t.pc+1:=by rw [wrap_id]<;>omega
 unfold loGo
 have h5:=back_ok t hf hl
 unfold encThr thCells at *
 cases hm:loMay ⟨14,a,b,c⟩ with
 | false =>
  rw [hm] at h4
  refine jC Tryz.func190 Tryz.ntmps190 (fun w0 β0 ext hβ=>?_)
  repeat (first|refine jS ?_|refine jD ?_|refine jB ?_|refine jV h1 ?_)
  rw [h10]
  repeat (first|refine jS ?_|refine jD ?_|refine jB ?_|refine jV h3 ?_|refine jV h2 ?_|refine jo rfl rfl (index_arr rfl rfl rfl rfl rfl (by decide) (by decide)) rfl rfl ?_|refine jV h4 ?_)
  exact jR
 | true =>
  rw [hm] at h4
  have hp2:∀ p:Thr × Int,p=frBack t→ACalls Tryz.prog 190 [.agg (thCells t),iv s,.agg [iv 14,iv a,iv b,iv c]] [] (one (.tup [resThr p,iv p.2]) []):=fun p hp=>by
   rw [←hp] at h5
   obtain ⟨p1,e⟩:=p
   unfold thCells at *
   cases he:decide (e=0) with
   | true =>
    have hres:resThr (p1,e)=encThr p1:=by unfold resThr;rw [he];rfl
    rw [hres] at h5 ⊢
    unfold encThr thCells at *
    refine jC Tryz.func190 Tryz.ntmps190 (fun w0 β0 ext hβ=>?_)
    repeat (first|refine jS ?_|refine jD ?_|refine jB ?_|refine jV h1 ?_)
    rw [h10]
    repeat (first|refine jS ?_|refine jD ?_|refine jB ?_|refine jV h3 ?_|refine jV h2 ?_|refine jo rfl rfl (index_arr rfl rfl rfl rfl rfl (by decide) (by decide)) rfl rfl ?_|refine jV h4 ?_|refine jV h5 ?_)
    exact jR
   | false =>
    have hres:resThr (p1,e)=thrE0:=by unfold resThr;rw [he];rfl
    rw [hres] at h5 ⊢
    unfold thrE0 at *
    refine jC Tryz.func190 Tryz.ntmps190 (fun w0 β0 ext hβ=>?_)
    repeat (first|refine jS ?_|refine jD ?_|refine jB ?_|refine jV h1 ?_)
    rw [h10]
    repeat (first|refine jS ?_|refine jD ?_|refine jB ?_|refine jV h3 ?_|refine jV h2 ?_|refine jo rfl rfl (index_arr rfl rfl rfl rfl rfl (by decide) (by decide)) rfl rfl ?_|refine jV h4 ?_|refine jV h5 ?_)
    exact jR
  exact hp2 _ rfl
theorem ap_15 (t:Thr) (s a b c:Int) (hf:t.frames.length≤1000) (hl:t.left.length≤1000000) (hr:loReady t s=0) (hp:0≤t.pc∧t.pc≤1000) (h10:(t.pc == 1000)=false) :
  ACalls Tryz.prog 190 [encThr t,iv s,.agg [iv 15,iv a,iv b,iv c]] [] (one (.tup [resThr (loGo s ⟨15,a,b,c⟩ t),iv (loGo s ⟨15,a,b,c⟩ t).2]) []):=by
 have h1:=ready_ok t s (by omega) hl
 rw [hr] at h1
 have h2:=lin_ok 15 1 15
 have h3:=all_ok
 have h4:ACalls Tryz.prog 227 [.agg [iv 1,iv (-1),fnA 265],.agg [iv 15,iv a,iv b,iv c]] [] (one (bv (loMay ⟨15,a,b,c⟩)) []):=lmay_ok 1 (-1) (fnA 265) ⟨15,a,b,c⟩ (by decide) (by decide) (.inr ⟨_,rfl⟩)
 have hw:IntKind.i64.wrap (t.pc+1)=t.pc+1:=by rw [wrap_id]<;>omega
 unfold loGo
 unfold encThr thCells at *
 cases hm:loMay ⟨15,a,b,c⟩ with
 | false =>
  rw [hm] at h4
  refine jC Tryz.func190 Tryz.ntmps190 (fun w0 β0 ext hβ=>?_)
  repeat (first|refine jS ?_|refine jD ?_|refine jB ?_|refine jV h1 ?_)
  rw [h10]
  repeat (first|refine jS ?_|refine jD ?_|refine jB ?_|refine jV h3 ?_|refine jV h2 ?_|refine jo rfl rfl (index_arr rfl rfl rfl rfl rfl (by decide) (by decide)) rfl rfl ?_|refine jV h4 ?_)
  exact jR
 | true =>
  rw [hm] at h4
  have hm2:=(Bool.and_eq_true _ _ ▸ (show (([a,b,c].take 1).all (fun k=>inn k 0 7)&&_)=true from hm)).1
  have ra:=inn7 (all_take1 (p:=fun k=>inn k 0 7) hm2)
  have h5:=lm_who { t with pc:=t.pc+1 } s ⟨15,a,b,c⟩ ra.1 ra.2
  unfold lwC at h5
  refine jC Tryz.func190 Tryz.ntmps190 (fun w0 β0 ext hβ=>?_)
  repeat (first|refine jS ?_|refine jD ?_|refine jB ?_|refine jV h1 ?_)
  rw [h10]
  repeat (first|refine jS ?_|refine jD ?_|refine jB ?_|refine jV h3 ?_|refine jV h2 ?_|refine jo rfl rfl (index_arr rfl rfl rfl rfl rfl (by decide) (by decide)) rfl rfl ?_|refine jV h4 ?_)
  rw [hw]
  repeat (first|refine jS ?_|refine jD ?_|refine jB ?_|refine jo rfl rfl (index_arr rfl rfl rfl rfl rfl (by decide) (by decide)) rfl rfl ?_)
  refine jBb [4] h5 ?_
  repeat (first|refine jS ?_|refine jD ?_|refine jB ?_)
  exact jR
theorem apply_ok (t:Thr) (s:Int) (i:Ins) (hf:t.frames.length≤1000) (hl:t.left.length≤1000000):ACalls Tryz.prog 190 [encThr t,iv s,encIns i] [] (one (.tup [resThr (loApply s i t),iv (loApply s i t).2]) []):=by
 have h1:=ready_ok t s (by omega) hl
 have h2:=lin_ok i.op 1 15
 have h3:=all_ok
 have e1:(t.pc == 1000)=decide (t.pc=1000):=rfl
 unfold loApply
 rcases loReady_of t s with hr|hr|⟨hr,hth⟩
 ·rw [hr] at h1 ⊢
  unfold encIns at *
  unfold encThr thCells at *
  refine jC Tryz.func190 Tryz.ntmps190 (fun w0 β0 ext hβ=>?_)
  repeat (first|refine jS ?_|refine jD ?_|refine jB ?_|refine jV h1 ?_)
  exact jR
 ·rw [hr] at h1 ⊢
  unfold encIns at *
  unfold encThr thCells at *
  cases he:decide (t.pc=1000)
  all_goals (
   rw [he] at e1
   refine jC Tryz.func190 Tryz.ntmps190 (fun w0 β0 ext hβ=>?_)
   repeat (first|refine jS ?_|refine jD ?_|refine jB ?_|refine jV h1 ?_)
   rw [e1]
   repeat (first|refine jS ?_|refine jD ?_|refine jB ?_|refine jV h3 ?_)
  )
  all_goals exact jR
 ·have hp:=thRight_pc hth
  cases he:decide (t.pc=1000) with
  | true =>
   rw [hr] at h1 ⊢
   rw [he] at e1
   unfold encIns at *
   unfold encThr thCells at *
   refine jC Tryz.func190 Tryz.ntmps190 (fun w0 β0 ext hβ=>?_)
   repeat (first|refine jS ?_|refine jD ?_|refine jB ?_|refine jV h1 ?_)
   rw [e1]
   repeat (first|refine jS ?_|refine jD ?_|refine jB ?_)
   exact jR
  | false =>
   rw [he] at e1
   cases hi:inn i.op 1 15 with
   | false =>
    rw [hr] at h1 ⊢
    rw [hi] at h2
    unfold encIns at *
    unfold encThr thCells at *
    refine jC Tryz.func190 Tryz.ntmps190 (fun w0 β0 ext hβ=>?_)
    repeat (first|refine jS ?_|refine jD ?_|refine jB ?_|refine jV h1 ?_)
    rw [e1]
    repeat (first|refine jS ?_|refine jD ?_|refine jB ?_|refine jV h3 ?_|refine jV h2 ?_)
    exact jR
   | true =>
    rw [hr]
    obtain ⟨op,a,b,c⟩:=i
    simp only at hi
    rcases inn15 hi with rfl|rfl|rfl|rfl|rfl|rfl|rfl|rfl|rfl|rfl|rfl|rfl|rfl|rfl|rfl
    ·exact ap_1 t s a b c hf hl hr hp e1
    ·exact ap_2 t s a b c hf hl hr hp e1
    ·exact ap_3 t s a b c hf hl hr hp e1
    ·exact ap_4 t s a b c hf hl hr hp e1
    ·exact ap_5 t s a b c hf hl hr hp e1
    ·exact ap_6 t s a b c hf hl hr hp e1
    ·exact ap_7 t s a b c hf hl hr hp e1
    ·exact ap_8 t s a b c hf hl hr hp e1
    ·exact ap_9 t s a b c hf hl hr hp e1
    ·exact ap_10 t s a b c hf hl hr hp e1
    ·exact ap_11 t s a b c hf hl hr hp e1
    ·exact ap_12 t s a b c hf hl hr hp e1
    ·exact ap_13 t s a b c hf hl hr hp e1
    ·exact ap_14 t s a b c hf hl hr hp e1
    ·exact ap_15 t s a b c hf hl hr hp e1
end Go.AL
end
section
set_option maxRecDepth 100000
namespace Go.AL
open Go Go.Proofs
attribute [local irreducible] J
def fltA (e:Int):AVal:=.ifc 279 (.agg [iv e])
theorem must_ok:ACalls Tryz.prog 151 [iv 0] [] (one (.tup []) []):=by
 refine jC Tryz.func151 Tryz.ntmps151 (fun w0 β0 ext hβ=>?_)
 repeat (first|refine jS ?_|refine jD ?_|refine jB ?_)
 exact jend [] true rfl rfl rfl ⟨rfl,rfl⟩
theorem must_pan (e:Int) (he:e≠0):ACalls Tryz.prog 151 [iv e] [] (onep (fltA e) []):=by
 have h:(e != 0)=true:=by rw [bne_iff_ne];exact he
 refine jC Tryz.func151 Tryz.ntmps151 (fun w0 β0 ext hβ=>?_)
 repeat (first|refine jS ?_|refine jD ?_|refine jB ?_)
 rw [h]
 repeat (first|refine jS ?_|refine jD ?_|refine jB ?_)
 refine jpan rfl rfl rfl rfl ?_
 exact qpan [] true rfl rfl rfl rfl
def swC (w : Wd) (k : Int) (t : Thr) (i : Ins) : List AVal :=
  [.sl (w.code.map encIns), .sl (w.tso.mem.words.map iv), .sl (w.tso.mem.tags.map iv), iv w.tso.depth, .sl (w.tso.bufs.map encBuf), .sl (w.thr.map encThr), .sl (w.evs.map encEvt), iv k,
   iv t.pc, iv (g0 t.regs 0), iv (g0 t.regs 1), iv (g0 t.regs 2), iv (g0 t.regs 3), iv (g0 t.regs 4), iv (g0 t.regs 5), iv (g0 t.regs 6), iv (g0 t.regs 7), .sl (t.frames.map encFrm), iv t.state, iv t.fault, .slz (t.left.map iv), iv i.op, iv i.a, iv i.b, iv i.c]
def swH (w:Wd) (k:Int) (t:Thr) (i:Ins):List AObj:=[.box 233 (swC w k t i)]
theorem sw_get (w:Wd) (k:Int) (t:Thr) (i:Ins) {q:Int} (h0:0≤q) (h8:q < 8):takeA ty3 (swC w k t i) (8+1+q.toNat*ty3.size)=some (iv (rg t q)):=by
 rcases eight h0 h8 with rfl|rfl|rfl|rfl|rfl|rfl|rfl|rfl<;>rfl
theorem sw_set (w:Wd) (k:Int) (t:Thr) (i:Ins) (v:Int) {q:Int} (h0:0≤q) (h8:q < 8):spliceA (swC w k t i) (8+1+q.toNat*ty3.size) [iv v]=swC w k (setR t q v) i:=by
 rcases eight h0 h8 with rfl|rfl|rfl|rfl|rfl|rfl|rfl|rfl<;>rfl
theorem put_ok (w:Wd) (k:Nat) (t:Thr) (i:Ins) (hk:k < w.thr.length) (hl:w.thr.length≤8) :
  ACalls Tryz.prog 189 [.ptr 0 0] (swH w k t i) (one (.tup []) (swH (setT w k t) k t i)):=by
 have hc:=clone_thr w.thr (by intro e;rw [e] at hk;simp at hk) (by omega)
 unfold swH swC setT
 simp only
 refine jC Tryz.func189 Tryz.ntmps189 (fun w0 β0 ext hβ=>?_)
 repeat (first|refine jS ?_|refine jD ?_|refine jB ?_)
 refine jBb [] hc ?_
 repeat (first|refine jS ?_|refine jB ?_)
 refine jdrawPT [(0,.p),(1,.p),(2,.p),(3,.p),(4,.r),(5,.p),(6,.p),(7,.p),(8,.r),(9,.p),(10,.p),(11,.p),(12,.r),(13,.s),(14,.m)] rfl (by kernel_rfl) ?_
 repeat (first|refine jS ?_|refine jD ?_|refine jB ?_)
 refine jo rfl rfl (index_own (xs:=w.thr.map encThr) (n:=(k:Int)) rfl rfl rfl rfl rfl rfl (by omega) (by simp;omega)) rfl rfl ?_
 refine jo rfl rfl (store_enc (enc:=encThr) (l:=w.thr) (l':=w.thr.set k t) rfl rfl rfl (map_at (by omega)) rfl rfl rfl rfl rfl (Nat.le_of_ble_eq_true rfl) (.inl ⟨_,rfl⟩) (put_at (enc:=encThr) rfl) rfl) rfl rfl ?_
 repeat (first|refine jS ?_|refine jD ?_|refine jB ?_)
 exact jend [] true rfl rfl rfl ⟨rfl,rfl⟩
theorem sload_ok (w:Wd) (k:Nat) (t:Thr) (i:Ins) (h:TsR w.tso) (hk:k < w.tso.bufs.length) (a0:0≤i.a) (a8:i.a < 8) (b0:0≤i.b) (b8:i.b < 8)
  (he:(tsLoad w.tso k (IntKind.i64.wrap (rg t i.b+i.c))).2=0) :
  ACalls Tryz.prog 191 [.ptr 0 0] (swH w k t i) (one (.tup []) (swH w k (setR t i.a (tsLoad w.tso k (IntKind.i64.wrap (rg t i.b+i.c))).1) i)):=by
 have h1:=tload_ok w.tso k (IntKind.i64.wrap (rg t i.b+i.c)) h hk
 have h2:=must_ok
 rw [he] at h1
 generalize (tsLoad w.tso k (IntKind.i64.wrap (rg t i.b+i.c))).1=v at *
 have hg:=sw_get w k t i b0 b8
 have hs:=sw_set w k t i v a0 a8
 have hle:8+1+i.a.toNat*ty3.size+1≤25:=by show 8+1+i.a.toNat*1+1≤25;omega
 unfold encTso tCells ivs at h1
 unfold swH
 unfold swC at *
 refine jC Tryz.func191 Tryz.ntmps191 (fun w0 β0 ext hβ=>?_)
 repeat (first|refine jS ?_|refine jD ?_|refine jB ?_|refine jo rfl rfl (index_arr rfl rfl rfl rfl rfl b0 b8) rfl rfl ?_|refine jo rfl rfl (load_dsem (r:=ty3) rfl rfl rfl hg) rfl rfl ?_|refine jV h1 ?_|refine jV h2 ?_|refine jo rfl rfl (index_arr rfl rfl rfl rfl rfl a0 a8) rfl rfl ?_|refine jo rfl rfl (store_box (r':=ty3) (v:=iv v) rfl rfl rfl rfl rfl rfl hle hs) rfl rfl ?_)
 exact jend [] true rfl rfl rfl ⟨rfl,rfl⟩
theorem sload_pan (w:Wd) (k:Nat) (t:Thr) (i:Ins) (h:TsR w.tso) (hk:k < w.tso.bufs.length) (a0:0≤i.a) (a8:i.a < 8) (b0:0≤i.b) (b8:i.b < 8)
  (he:(tsLoad w.tso k (IntKind.i64.wrap (rg t i.b+i.c))).2≠0) :
  ACalls Tryz.prog 191 [.ptr 0 0] (swH w k t i) (onep (fltA (tsLoad w.tso k (IntKind.i64.wrap (rg t i.b+i.c))).2) (swH w k t i)):=by
 have h1:=tload_ok w.tso k (IntKind.i64.wrap (rg t i.b+i.c)) h hk
 have h2:=must_pan _ he
 generalize tsLoad w.tso k (IntKind.i64.wrap (rg t i.b+i.c))=v at *
 obtain ⟨v,e⟩:=v
 simp only at *
 have hg:=sw_get w k t i b0 b8
 unfold encTso tCells ivs at h1
 unfold swH
 unfold swC at *
 refine jC Tryz.func191 Tryz.ntmps191 (fun w0 β0 ext hβ=>?_)
 repeat (first|refine jS ?_|refine jD ?_|refine jB ?_|refine jo rfl rfl (index_arr rfl rfl rfl rfl rfl b0 b8) rfl rfl ?_|refine jo rfl rfl (load_dsem (r:=ty3) rfl rfl rfl hg) rfl rfl ?_|refine jV h1 ?_)
 refine jbp [] h2 rfl rfl rfl ⟨rfl,rfl,rfl,rfl,rfl,rfl⟩ rfl rfl rfl ?_
 exact qpan [] true rfl rfl rfl rfl
theorem sstore_ok (w:Wd) (k:Nat) (t:Thr) (i:Ins) (h:TsR w.tso) (hk:k < w.tso.bufs.length) (a0:0≤i.a) (a8:i.a < 8) (b0:0≤i.b) (b8:i.b < 8)
  (he:(tsStore w.tso k (IntKind.i64.wrap (rg t i.b+i.c)) (rg t i.a)).2=0) :
  ACalls Tryz.prog 192 [.ptr 0 0] (swH w k t i) (one (.tup []) (swH { w with tso:=(tsStore w.tso k (IntKind.i64.wrap (rg t i.b+i.c)) (rg t i.a)).1 } k t i)):=by
 have h1:=tstore_ok w.tso k (IntKind.i64.wrap (rg t i.b+i.c)) (rg t i.a) h hk
 have h2:=must_ok
 rw [he] at h1
 generalize (tsStore w.tso k (IntKind.i64.wrap (rg t i.b+i.c)) (rg t i.a)).1=v at *
 have hg:=sw_get w k t i b0 b8
 have hg2:=sw_get w k t i a0 a8
 unfold encTso tCells ivs at h1
 unfold swH
 unfold swC at *
 refine jC Tryz.func192 Tryz.ntmps192 (fun w0 β0 ext hβ=>?_)
 repeat (first|refine jS ?_|refine jD ?_|refine jB ?_|refine jo rfl rfl (index_arr rfl rfl rfl rfl rfl b0 b8) rfl rfl ?_|refine jo rfl rfl (load_dsem (r:=ty3) rfl rfl rfl hg) rfl rfl ?_|refine jo rfl rfl (index_arr rfl rfl rfl rfl rfl a0 a8) rfl rfl ?_|refine jo rfl rfl (load_dsem (r:=ty3) rfl rfl rfl hg2) rfl rfl ?_|refine jV h1 ?_|refine jV h2 ?_)
 exact jend [] true rfl rfl rfl ⟨rfl,rfl⟩
theorem sstore_pan (w:Wd) (k:Nat) (t:Thr) (i:Ins) (h:TsR w.tso) (hk:k < w.tso.bufs.length) (a0:0≤i.a) (a8:i.a < 8) (b0:0≤i.b) (b8:i.b < 8)
  (he:(tsStore w.tso k (IntKind.i64.wrap (rg t i.b+i.c)) (rg t i.a)).2≠0) :
  ACalls Tryz.prog 192 [.ptr 0 0] (swH w k t i) (onep (fltA (tsStore w.tso k (IntKind.i64.wrap (rg t i.b+i.c)) (rg t i.a)).2) (swH w k t i)):=by
 have h1:=tstore_ok w.tso k (IntKind.i64.wrap (rg t i.b+i.c)) (rg t i.a) h hk
 have h2:=must_pan _ he
 generalize tsStore w.tso k (IntKind.i64.wrap (rg t i.b+i.c)) (rg t i.a)=v at *
 obtain ⟨v,e⟩:=v
 simp only at *
 have hg:=sw_get w k t i b0 b8
 have hg2:=sw_get w k t i a0 a8
 unfold encTso tCells ivs at h1
 unfold swH
 unfold swC at *
 refine jC Tryz.func192 Tryz.ntmps192 (fun w0 β0 ext hβ=>?_)
 repeat (first|refine jS ?_|refine jD ?_|refine jB ?_|refine jo rfl rfl (index_arr rfl rfl rfl rfl rfl b0 b8) rfl rfl ?_|refine jo rfl rfl (load_dsem (r:=ty3) rfl rfl rfl hg) rfl rfl ?_|refine jo rfl rfl (index_arr rfl rfl rfl rfl rfl a0 a8) rfl rfl ?_|refine jo rfl rfl (load_dsem (r:=ty3) rfl rfl rfl hg2) rfl rfl ?_|refine jV h1 ?_)
 refine jbp [] h2 rfl rfl rfl ⟨rfl,rfl,rfl,rfl,rfl,rfl⟩ rfl rfl rfl ?_
 exact qpan [] true rfl rfl rfl rfl
theorem smark_ok (w:Wd) (k:Nat) (t:Thr) (i:Ins) (tag:Int) (h:TsR w.tso) (htg:tag=1∨tag=2) (a0:0≤i.a) (a8:i.a < 8) (b0:0≤i.b) (b8:i.b < 8) (he:(mMark w.tso.mem (rg t i.a) (rg t i.b) tag).2=0) :
  ACalls Tryz.prog 195 [.ptr 0 0,iv tag] (swH w k t i) (one (.tup []) (swH { w with tso:={ w.tso with mem:=(mMark w.tso.mem (rg t i.a) (rg t i.b) tag).1 } } k t i)):=by
 have h1:=mark_ok w.tso.mem (rg t i.a) (rg t i.b) tag h.mem htg
 have h2:=must_ok
 rw [he] at h1
 generalize (mMark w.tso.mem (rg t i.a) (rg t i.b) tag).1=v at *
 have hg:=sw_get w k t i b0 b8
 have hg2:=sw_get w k t i a0 a8
 unfold encMem mCells ivs at h1
 unfold swH
 unfold swC at *
 refine jC Tryz.func195 Tryz.ntmps195 (fun w0 β0 ext hβ=>?_)
 repeat (first|refine jS ?_|refine jD ?_|refine jB ?_|refine jo rfl rfl (index_arr rfl rfl rfl rfl rfl b0 b8) rfl rfl ?_|refine jo rfl rfl (load_dsem (r:=ty3) rfl rfl rfl hg) rfl rfl ?_|refine jo rfl rfl (index_arr rfl rfl rfl rfl rfl a0 a8) rfl rfl ?_|refine jo rfl rfl (load_dsem (r:=ty3) rfl rfl rfl hg2) rfl rfl ?_|refine jV h1 ?_|refine jV h2 ?_)
 exact jend [] true rfl rfl rfl ⟨rfl,rfl⟩
theorem smark_pan (w:Wd) (k:Nat) (t:Thr) (i:Ins) (tag:Int) (h:TsR w.tso) (htg:tag=1∨tag=2) (a0:0≤i.a) (a8:i.a < 8) (b0:0≤i.b) (b8:i.b < 8) (he:(mMark w.tso.mem (rg t i.a) (rg t i.b) tag).2≠0) :
  ACalls Tryz.prog 195 [.ptr 0 0,iv tag] (swH w k t i) (onep (fltA (mMark w.tso.mem (rg t i.a) (rg t i.b) tag).2) (swH w k t i)):=by
 have h1:=mark_ok w.tso.mem (rg t i.a) (rg t i.b) tag h.mem htg
 have h2:=must_pan _ he
 generalize mMark w.tso.mem (rg t i.a) (rg t i.b) tag=v at *
 obtain ⟨v,e⟩:=v
 simp only at *
 have hg:=sw_get w k t i b0 b8
 have hg2:=sw_get w k t i a0 a8
 unfold encMem mCells ivs at h1
 unfold swH
 unfold swC at *
 refine jC Tryz.func195 Tryz.ntmps195 (fun w0 β0 ext hβ=>?_)
 repeat (first|refine jS ?_|refine jD ?_|refine jB ?_|refine jo rfl rfl (index_arr rfl rfl rfl rfl rfl b0 b8) rfl rfl ?_|refine jo rfl rfl (load_dsem (r:=ty3) rfl rfl rfl hg) rfl rfl ?_|refine jo rfl rfl (index_arr rfl rfl rfl rfl rfl a0 a8) rfl rfl ?_|refine jo rfl rfl (load_dsem (r:=ty3) rfl rfl rfl hg2) rfl rfl ?_|refine jV h1 ?_)
 refine jbp [] h2 rfl rfl rfl ⟨rfl,rfl,rfl,rfl,rfl,rfl⟩ rfl rfl rfl ?_
 exact qpan [] true rfl rfl rfl rfl
theorem slocked_ok (w:Wd) (k:Nat) (t:Thr) (i:Ins) (kd y:Int) (h:TsR w.tso) (hk:k < w.tso.bufs.length) (hkd:kd=0∨kd=1∨kd=2) (a0:0≤i.a) (a8:i.a < 8) (b0:0≤i.b) (b8:i.b < 8)
  (he:(tsLocked w.tso k kd (rg t i.b) (rg t i.a) y).2.2=0) :
  ACalls Tryz.prog 193 [.ptr 0 0,iv kd,iv y] (swH w k t i)
   (one (.tup []) (swH { w with tso:=(tsLocked w.tso k kd (rg t i.b) (rg t i.a) y).1 } k (setR t i.a (tsLocked w.tso k kd (rg t i.b) (rg t i.a) y).2.1) i)):=by
 have h1:=locked_ok w.tso k kd (rg t i.b) (rg t i.a) y h hk hkd
 have h2:=must_ok
 rw [he] at h1
 generalize (tsLocked w.tso k kd (rg t i.b) (rg t i.a) y).1=ts at *
 generalize (tsLocked w.tso k kd (rg t i.b) (rg t i.a) y).2.1=v at *
 have hg:=sw_get w k t i b0 b8
 have hg2:=sw_get w k t i a0 a8
 have hs:=sw_set { w with tso:=ts } k t i v a0 a8
 have hle:8+1+i.a.toNat*ty3.size+1≤25:=by show 8+1+i.a.toNat*1+1≤25;omega
 unfold encTso tCells ivs at h1
 unfold swH
 unfold swC at *
 refine jC Tryz.func193 Tryz.ntmps193 (fun w0 β0 ext hβ=>?_)
 repeat (first|refine jS ?_|refine jD ?_|refine jB ?_|refine jo rfl rfl (index_arr rfl rfl rfl rfl rfl b0 b8) rfl rfl ?_|refine jo rfl rfl (load_dsem (r:=ty3) rfl rfl rfl hg) rfl rfl ?_|refine jo rfl rfl (index_arr rfl rfl rfl rfl rfl a0 a8) rfl rfl ?_|refine jo rfl rfl (load_dsem (r:=ty3) rfl rfl rfl hg2) rfl rfl ?_|refine jV h1 ?_|refine jV h2 ?_|refine jo rfl rfl (store_box (r':=ty3) (v:=iv v) rfl rfl rfl rfl rfl rfl hle hs) rfl rfl ?_)
 exact jend [] true rfl rfl rfl ⟨rfl,rfl⟩
theorem slocked_pan (w:Wd) (k:Nat) (t:Thr) (i:Ins) (kd y:Int) (h:TsR w.tso) (hk:k < w.tso.bufs.length) (hkd:kd=0∨kd=1∨kd=2) (a0:0≤i.a) (a8:i.a < 8) (b0:0≤i.b) (b8:i.b < 8)
  (he:(tsLocked w.tso k kd (rg t i.b) (rg t i.a) y).2.2≠0) :
  ACalls Tryz.prog 193 [.ptr 0 0,iv kd,iv y] (swH w k t i) (onep (fltA (tsLocked w.tso k kd (rg t i.b) (rg t i.a) y).2.2) (swH w k t i)):=by
 have h1:=locked_ok w.tso k kd (rg t i.b) (rg t i.a) y h hk hkd
 have h2:=must_pan _ he
 generalize tsLocked w.tso k kd (rg t i.b) (rg t i.a) y=v at *
 obtain ⟨v,v2,e⟩:=v
 simp only at *
 have hg:=sw_get w k t i b0 b8
 have hg2:=sw_get w k t i a0 a8
 unfold encTso tCells ivs at h1
 unfold swH
 unfold swC at *
 refine jC Tryz.func193 Tryz.ntmps193 (fun w0 β0 ext hβ=>?_)
 repeat (first|refine jS ?_|refine jD ?_|refine jB ?_|refine jo rfl rfl (index_arr rfl rfl rfl rfl rfl b0 b8) rfl rfl ?_|refine jo rfl rfl (load_dsem (r:=ty3) rfl rfl rfl hg) rfl rfl ?_|refine jo rfl rfl (index_arr rfl rfl rfl rfl rfl a0 a8) rfl rfl ?_|refine jo rfl rfl (load_dsem (r:=ty3) rfl rfl rfl hg2) rfl rfl ?_|refine jV h1 ?_)
 refine jbp [] h2 rfl rfl rfl ⟨rfl,rfl,rfl,rfl,rfl,rfl⟩ rfl rfl rfl ?_
 exact qpan [] true rfl rfl rfl rfl
theorem inv_box {ext:Nat→Prop} {w:World} {β:List Ent} {bt:TypeId} {cs cs':List AVal} (hI:Inv ext w [.box bt cs] β) (ho:cs'.all AVal.one=true) (hr:∀ (c:Ctx) us,RelL c cs us→RelL c cs' us):Inv ext w [.box bt cs'] β:=by
 refine ⟨hI.len,fun i o e hi he=>?_,hI.uniq,hI.sep⟩
 match i with
 | 0 =>
  simp at hi;subst hi
  obtain ⟨g1,g2,b,us,g3,g4,g5⟩:=hI.obj 0 _ e rfl he
  exact ⟨g1,ho,b,us,g3,g4,hr _ _ g5⟩
 | i+1=>simp at hi
theorem acalls_box {f:FuncId} {args:List AVal} {H:List AObj} {v:AVal} {bt:TypeId} {cs cs':List AVal} (h:ACalls Tryz.prog f args H (one v [.box bt cs])) (ho:cs'.all AVal.one=true) (hr:∀ (c:Ctx) us,RelL c cs us→RelL c cs' us):ACalls Tryz.prog f args H (one v [.box bt cs']):=by
 refine ⟨h.enters,fun ext w β us hI hx hrr=>(h.calls ext w β us hI hx hrr).mono fun e w' he=>?_⟩
 cases e with
 | returned u =>
  obtain ⟨v1,H',β',⟨q1,q2⟩,h2,h3,h4⟩:=he
  subst q2
  exact ⟨v1,_,β',⟨q1,rfl⟩,h2,inv_box h3 ho hr,h4⟩
 | panicked ch=>obtain ⟨u,_,v1,H',β',⟨q1,q2⟩,_⟩:=he;cases q1
 | outgrown=>exact he.elim
theorem relL_set {c:Ctx} {y:AVal}:∀ {cs:List AVal} {us:List Value} {n:Nat} {x:AVal},cs[n]? = some x→(∀ u,Rel c x u→Rel c y u)→RelL c cs us→RelL c (cs.set n y) us
 | [],_,n,x,h,_,_=>by simp at h
 | a::cs,_,0,x,h,hr,⟨u,us,e,r,rs⟩=>by
  simp at h;subst h
  exact ⟨u,us,e,hr u r,rs⟩
 | a::cs,_,n+1,x,h,hr,⟨u,us,e,r,rs⟩=>⟨u,us,e,r,relL_set (by simpa using h) hr rs⟩
def swX (w : Wd) (k : Int) (t : Thr) (i : Ins) (x : AVal) : List AVal :=
  [.sl (w.code.map encIns), .sl (w.tso.mem.words.map iv), .sl (w.tso.mem.tags.map iv), iv w.tso.depth, .sl (w.tso.bufs.map encBuf), .sl (w.thr.map encThr), .sl (w.evs.map encEvt), iv k,
   iv t.pc, iv (g0 t.regs 0), iv (g0 t.regs 1), iv (g0 t.regs 2), iv (g0 t.regs 3), iv (g0 t.regs 4), iv (g0 t.regs 5), iv (g0 t.regs 6), iv (g0 t.regs 7), .sl (t.frames.map encFrm), iv t.state, iv t.fault, x, iv i.op, iv i.a, iv i.b, iv i.c]
theorem swX_rel {w:Wd} {k:Int} {t:Thr} {i:Ins} {x y:AVal} (hr:∀ (c:Ctx) u,Rel c x u→Rel c y u) (c:Ctx) (us:List Value) (h:RelL c (swX w k t i x) us):RelL c (swX w k t i y) us :=
 relL_set (n:=20) (x:=x) rfl (hr c) h
theorem sbroad_some (w:Wd) (k:Nat) (t:Thr) (i:Ins) (hl:0 < t.left.length) :
  ACalls Tryz.prog 194 [.ptr 0 0] (swH w k t i) (one (.tup []) (swH w k { t with left:=[] } i)):=by
 have hd:decide (((t.left.map iv).length:Int) > 0)=true:=decide_eq_true (by rw [List.length_map];omega)
 have h0:ACalls Tryz.prog 194 [.ptr 0 0] (swH w k t i) (one (.tup []) [.box 233 (swX w k t i (.slf []))]):=by
  unfold swH swC swX
  refine jC Tryz.func194 Tryz.ntmps194 (fun w0 β0 ext hβ=>?_)
  repeat (first|refine jS ?_|refine jD ?_|refine jB ?_)
  rw [hd]
  repeat (first|refine jS ?_|refine jD ?_|refine jB ?_)
  exact jret [] false rfl rfl rfl ⟨rfl,rfl⟩
 exact acalls_box h0 rfl (swX_rel fun c u h=>slf_slz h)
theorem lens_take {b:List (List Wput)} {q:Nat} (h:q < b.length):lens (b.take (q+1))=lens (b.take q)++[((at' b (q:Int)).length:Int)]:=by
 unfold lens
 rw [at_nat b q h,List.take_add_one,List.getElem?_eq_getElem h,List.map_append]
 rfl
theorem sbroad_none (w:Wd) (k:Nat) (t:Thr) (i:Ins) (hl:t.left=[]) (hp:1≤t.pc) (hp2:t.pc≤1001) (hb:1≤w.tso.bufs.length) (hb8:w.tso.bufs.length≤8) :
  ACalls Tryz.prog 194 [.ptr 0 0] (swH w k t i) (one (.tup []) (swH w k { t with pc:=t.pc-1,left:=lens w.tso.bufs } i)):=by
 have hw:IntKind.i64.wrap (t.pc-1)=t.pc-1:=by rw [wrap_id]<;>omega
 have h0:ACalls Tryz.prog 194 [.ptr 0 0] (swH w k t i) (one (.tup []) [.box 233 (swX w k { t with pc:=t.pc-1 } i (.sl ((lens w.tso.bufs).map iv)))]):=by
  have e0:swC w k t i=swX w k t i (.slz []):=by unfold swC swX;rw [hl];rfl
  unfold swH
  rw [e0]
  unfold swX
  refine jC Tryz.func194 Tryz.ntmps194 (fun w0 β0 ext hβ=>?_)
  refine jweakB 0 (swX w k t i (.slf [])) rfl rfl rfl (swX_rel fun c u h=>slz_slf h) ?_
  unfold swX
  repeat (first|refine jS ?_|refine jD ?_|refine jB ?_)
  rw [hw]
  repeat (first|refine jS ?_|refine jD ?_|refine jB ?_)
  refine jadB 0 20 3 1 rfl rfl rfl rfl ?_
  refine jloopI (fun q:Nat=>q≤w.tso.bufs.length) [0,29,30,31] (fun q=>[.ptr 0 0,.sl (w.tso.bufs.map encBuf),.v (.int .i64 ((w.tso.bufs.map encBuf).length:Int)),.v (.int .i64 (q:Int))])
   (fun q=>[.box 233 (swX w k { t with pc:=t.pc-1 } i (.arr 1 (q+1))),.arr (q+1) 3 1 ((lens (w.tso.bufs.take q)).map iv)]) (fun q=>w.tso.bufs.length-q) 0 (Nat.zero_le _) rfl rfl (fun q hq=>?_)
  unfold swX
  simp only
  repeat (first|refine jS ?_|refine jD ?_|refine jB ?_)
  refine jc rfl rfl rfl (fun h=>?_) (fun h=>?_)
  ·have h:=of_decide_eq_true h
   rw [List.length_map] at h
   have hq2:q < w.tso.bufs.length:=by omega
   have hlt:=lens_take hq2
   have hll:(lens (w.tso.bufs.take q)).length≤8:=by unfold lens;rw [List.length_map,List.length_take];omega
   repeat (first|refine jS ?_|refine jD ?_|refine jB ?_|refine jI (Int.natCast_nonneg q) h ?_)
   rw [show (((at' w.tso.bufs (q:Int)).map encPut).length:Int)=((at' w.tso.bufs (q:Int)).length:Int) by rw [List.length_map]]
   repeat (first|refine jS ?_|refine jD ?_|refine jB ?_)
   refine jo rfl rfl (append_enc (enc:=iv) (l:=lens (w.tso.bufs.take q)) ((at' w.tso.bufs (q:Int)).length:Int) rfl rfl rfl rfl rfl rfl rfl rfl rfl rfl (fun x=>⟨rfl,rfl⟩) rfl (by omega) rfl rfl) rfl rfl ?_
   rw [←hlt]
   repeat (first|refine jS ?_|refine jD ?_|refine jB ?_)
   refine jnextI (q+1) hq2 ?_ rfl (by omega)
   show some _=some _
   rw [idx_next hq2 (by omega)]
  ·have h:=of_decide_eq_false h
   rw [List.length_map] at h
   have:q=w.tso.bufs.length:=by omega
   subst this
   rw [List.take_length]
   repeat (first|refine jS ?_|refine jD ?_|refine jB ?_)
   rcases (by omega:w.tso.bufs.length=1∨w.tso.bufs.length=2∨w.tso.bufs.length=3∨w.tso.bufs.length=4∨w.tso.bufs.length=5∨w.tso.bufs.length=6∨w.tso.bufs.length=7∨w.tso.bufs.length=8) with e|e|e|e|e|e|e|e
   all_goals rw [e]
   all_goals exact jend [] true rfl rfl rfl ⟨rfl,rfl⟩
 refine acalls_box h0 rfl (swX_rel fun c u h=>?_)
 unfold lens at *
 cases hbb:w.tso.bufs with
 | nil=>rw [hbb] at hb;simp at hb
 | cons x r=>rw [hbb] at h;exact sl_slz h
end Go.AL
end
section
set_option maxRecDepth 100000
namespace Go.AL
open Go Go.Proofs
attribute [local irreducible] J
theorem canb_ok (n:Int):ACalls Tryz.prog 187 [iv n] [] (one (bv (decide (n > 0))) []):=by
 refine jC Tryz.func187 Tryz.ntmps187 (fun w0 β0 ext hβ=>?_)
 repeat (first|refine jS ?_|refine jD ?_|refine jB ?_)
 exact jR
theorem can_stop (w:Wd) (k:Nat) (t:Thr) (i:Ins) (hk:k < w.tso.bufs.length) (hs:t.state≠0):ACalls Tryz.prog 145 [.ptr 0 0] (swH w k t i) (one (bv false) (swH w k t i)):=by
 have hs:(t.state != 0)=true:=by rw [bne_iff_ne];exact hs
 have hk1:(k:Int) < w.tso.bufs.length:=by omega
 unfold swH swC
 refine jC Tryz.func145 Tryz.ntmps145 (fun w0 β0 ext hβ=>?_)
 repeat (first|refine jS ?_|refine jD ?_|refine jB ?_|refine jI (Int.natCast_nonneg k) hk1 ?_)
 rw [hs]
 repeat (first|refine jS ?_|refine jD ?_|refine jB ?_)
 exact jR
theorem can_17 (w:Wd) (k:Nat) (t:Thr) (a b c:Int) (hk:k < w.tso.bufs.length) (hs:t.state=0):ACalls Tryz.prog 145 [.ptr 0 0] (swH w k t ⟨17,a,b,c⟩) (one (bv (canOp w k t ⟨17,a,b,c⟩)) (swH w k t ⟨17,a,b,c⟩)):=by
 have hs:(t.state != 0)=false:=by rw [bne_eq_false_iff_eq];exact hs
 have hk1:(k:Int) < w.tso.bufs.length:=by omega
 have h1:decide ((((at' w.tso.bufs (k:Int)).map encPut).length:Int) < w.tso.depth)=decide (((bufAt w.tso k).length:Int) < w.tso.depth):=by rw [List.length_map];rfl
 have h2:(w.tso.depth == 0)=decide (w.tso.depth=0):=rfl
 unfold swH swC canOp
 simp only
 refine jC Tryz.func145 Tryz.ntmps145 (fun w0 β0 ext hβ=>?_)
 repeat (first|refine jS ?_|refine jD ?_|refine jB ?_|refine jI (Int.natCast_nonneg k) hk1 ?_)
 rw [hs]
 repeat (first|refine jS ?_|refine jD ?_|refine jB ?_)
 rw [h1]
 cases hd:decide (((bufAt w.tso k).length:Int) < w.tso.depth)
 all_goals (
  repeat (first|refine jS ?_|refine jD ?_|refine jB ?_)
 )
 all_goals exact jR
theorem can_wt (op:Int) (hop:op=18∨op=19∨op=20∨op=21) (w:Wd) (k:Nat) (t:Thr) (a b c:Int) (hk:k < w.tso.bufs.length) (hs:t.state=0):ACalls Tryz.prog 145 [.ptr 0 0] (swH w k t ⟨op,a,b,c⟩) (one (bv (canOp w k t ⟨op,a,b,c⟩)) (swH w k t ⟨op,a,b,c⟩)):=by
 have hs:(t.state != 0)=false:=by rw [bne_eq_false_iff_eq];exact hs
 have hk1:(k:Int) < w.tso.bufs.length:=by omega
 have h1:((((at' w.tso.bufs (k:Int)).map encPut).length:Int) == 0)=decide ((bufAt w.tso k).length=0):=by rw [List.length_map,int_beq];exact decide_eq_decide.2 (by rw [bufAt_at];omega)
 rcases hop with rfl|rfl|rfl|rfl
 all_goals (
  unfold swH swC canOp
  simp only
  refine jC Tryz.func145 Tryz.ntmps145 (fun w0 β0 ext hβ=>?_)
  repeat (first|refine jS ?_|refine jD ?_|refine jB ?_|refine jI (Int.natCast_nonneg k) hk1 ?_)
  rw [hs]
  repeat (first|refine jS ?_|refine jD ?_|refine jB ?_)
  rw [h1]
 )
 all_goals exact jR
theorem can_22 (w:Wd) (k:Nat) (t:Thr) (a b c:Int) (hk:k < w.tso.bufs.length) (hs:t.state=0) (hl:t.left.length≤1000000):ACalls Tryz.prog 145 [.ptr 0 0] (swH w k t ⟨22,a,b,c⟩) (one (bv (canOp w k t ⟨22,a,b,c⟩)) (swH w k t ⟨22,a,b,c⟩)):=by
 have hs:(t.state != 0)=false:=by rw [bne_eq_false_iff_eq];exact hs
 have hk1:(k:Int) < w.tso.bufs.length:=by omega
 have h1:=contains_int 187 t.left (fun n=>decide (n > 0)) hl (fun n _=>canb_ok n)
 unfold swH swC canOp
 simp only
 refine jC Tryz.func145 Tryz.ntmps145 (fun w0 β0 ext hβ=>?_)
 repeat (first|refine jS ?_|refine jD ?_|refine jB ?_|refine jI (Int.natCast_nonneg k) hk1 ?_)
 rw [hs]
 repeat (first|refine jS ?_|refine jD ?_|refine jB ?_|refine jw h1 rfl rfl rfl rfl rfl rfl ?_)
 exact jR
theorem can_23 (w:Wd) (k:Nat) (t:Thr) (a b c:Int) (hk:k < w.tso.bufs.length) (hs:t.state=0) (h:TsR w.tso) (a0:0≤a) (a8:a < 8) (b0:0≤b) (b8:b < 8) :
  ACalls Tryz.prog 145 [.ptr 0 0] (swH w k t ⟨23,a,b,c⟩) (one (bv (canOp w k t ⟨23,a,b,c⟩)) (swH w k t ⟨23,a,b,c⟩)):=by
 have hs:(t.state != 0)=false:=by rw [bne_eq_false_iff_eq];exact hs
 have hk1:(k:Int) < w.tso.bufs.length:=by omega
 have h1:((((at' w.tso.bufs (k:Int)).map encPut).length:Int) == 0)=decide ((bufAt w.tso k).length=0):=by rw [List.length_map,int_beq];exact decide_eq_decide.2 (by rw [bufAt_at];omega)
 have h2:=load_ok w.tso.mem (rg t b) h.mem
 have hg:=sw_get w k t ⟨23,a,b,c⟩ b0 b8
 have hg2:=sw_get w k t ⟨23,a,b,c⟩ a0 a8
 unfold canOp
 simp only
 unfold encMem mCells ivs at h2
 generalize mLoad w.tso.mem (rg t b)=ld at *
 obtain ⟨v,e⟩:=ld
 simp only at *
 have h3:(e != 0) = !decide (e=0):=rfl
 have h4:(v != rg t a) = !decide (v=rg t a):=rfl
 unfold swH
 unfold swC at *
 refine jC Tryz.func145 Tryz.ntmps145 (fun w0 β0 ext hβ=>?_)
 repeat (first|refine jS ?_|refine jD ?_|refine jB ?_|refine jI (Int.natCast_nonneg k) hk1 ?_)
 rw [hs]
 repeat (first|refine jS ?_|refine jD ?_|refine jB ?_|refine jo rfl rfl (index_arr rfl rfl rfl rfl rfl b0 b8) rfl rfl ?_|refine jo rfl rfl (load_dsem (r:=ty3) rfl rfl rfl hg) rfl rfl ?_|refine jV h2 ?_)
 rw [h1]
 cases hd:decide ((bufAt w.tso k).length=0) with
 | false =>
  repeat (first|refine jS ?_|refine jD ?_|refine jB ?_)
  exact jR
 | true =>
  repeat (first|refine jS ?_|refine jD ?_|refine jB ?_)
  rw [h3]
  cases he:decide (e=0) with
  | false =>
   repeat (first|refine jS ?_|refine jD ?_|refine jB ?_)
   exact jR
  | true =>
   repeat (first|refine jS ?_|refine jD ?_|refine jB ?_|refine jo rfl rfl (index_arr rfl rfl rfl rfl rfl a0 a8) rfl rfl ?_|refine jo rfl rfl (load_dsem (r:=ty3) rfl rfl rfl hg2) rfl rfl ?_)
   rw [h4]
   exact jR
theorem can_else (w:Wd) (k:Nat) (t:Thr) (i:Ins) (hk:k < w.tso.bufs.length) (hs:t.state=0) (hop:i.op < 17∨23 < i.op):ACalls Tryz.prog 145 [.ptr 0 0] (swH w k t i) (one (bv true) (swH w k t i)):=by
 have hs:(t.state != 0)=false:=by rw [bne_eq_false_iff_eq];exact hs
 have hk1:(k:Int) < w.tso.bufs.length:=by omega
 have q:∀ n:Int,17≤n→n≤23→(i.op == n)=false:=fun n a b=>by rw [beq_eq_false_iff_ne];omega
 unfold swH swC
 refine jC Tryz.func145 Tryz.ntmps145 (fun w0 β0 ext hβ=>?_)
 repeat (first|refine jS ?_|refine jD ?_|refine jB ?_|refine jI (Int.natCast_nonneg k) hk1 ?_)
 rw [hs]
 repeat (first|refine jS ?_|refine jD ?_|refine jB ?_)
 rw [q 17 (by decide) (by decide)]
 repeat (first|refine jS ?_|refine jD ?_|refine jB ?_)
 rw [q 18 (by decide) (by decide)]
 repeat (first|refine jS ?_|refine jD ?_|refine jB ?_)
 rw [q 19 (by decide) (by decide)]
 repeat (first|refine jS ?_|refine jD ?_|refine jB ?_)
 rw [q 20 (by decide) (by decide)]
 repeat (first|refine jS ?_|refine jD ?_|refine jB ?_)
 rw [q 21 (by decide) (by decide)]
 repeat (first|refine jS ?_|refine jD ?_|refine jB ?_)
 rw [q 22 (by decide) (by decide)]
 repeat (first|refine jS ?_|refine jD ?_|refine jB ?_)
 rw [q 23 (by decide) (by decide)]
 repeat (first|refine jS ?_|refine jD ?_|refine jB ?_)
 exact jR
end Go.AL
end
section
set_option maxRecDepth 100000
namespace Go.AL
open Go Go.Proofs
attribute [local irreducible] J
theorem scan_ok (w:Wd) (k:Nat) (t:Thr) (i:Ins) (hk:k < w.tso.bufs.length) (h:TsR w.tso) (hl:t.left.length≤1000000) (hr:i.op=23→(0≤i.a∧i.a < 8)∧0≤i.b∧i.b < 8) :
  ACalls Tryz.prog 145 [.ptr 0 0] (swH w k t i) (one (bv (decide (t.state=0)&&canOp w k t i)) (swH w k t i)):=by
 cases hs:decide (t.state=0) with
 | false=>exact can_stop w k t i hk (of_decide_eq_false hs)
 | true =>
  have hs:=of_decide_eq_true hs
  rw [Bool.true_and]
  by_cases hop:i.op < 17∨23 < i.op
  ·have e:canOp w k t i=true:=by
    unfold canOp
    split<;>first|rfl|(exfalso;omega)
   rw [e]
   exact can_else w k t i hk hs hop
  ·obtain ⟨op,a,b,c⟩:=i
   simp only at hop hr
   rcases (by omega:op=17∨op=18∨op=19∨op=20∨op=21∨op=22∨op=23) with rfl|rfl|rfl|rfl|rfl|rfl|rfl
   ·exact can_17 w k t a b c hk hs
   ·exact can_wt 18 (by decide) w k t a b c hk hs
   ·exact can_wt 19 (by decide) w k t a b c hk hs
   ·exact can_wt 20 (by decide) w k t a b c hk hs
   ·exact can_wt 21 (by decide) w k t a b c hk hs
   ·exact can_22 w k t a b c hk hs hl
   ·obtain ⟨⟨a0,a8⟩,b0,b8⟩:=hr rfl
    exact can_23 w k t a b c hk hs h a0 a8 b0 b8
structure WdR (w:Wd):Prop where
 code:rightC w.code=true
 tso:TsR w.tso
 len:w.thr.length=w.tso.bufs.length
 thr:∀ t∈w.thr,thRight t=true∧(t.left.length=0∨t.left.length=w.thr.length)
theorem wRight_iff {w:Wd}:wRight w=true↔WdR w:=by
 unfold wRight
 simp only [Bool.and_eq_true,Bool.or_eq_true,decide_eq_true_eq,List.all_eq_true,tsRight_iff]
 exact ⟨fun ⟨a,b,c,d⟩=>⟨a,b,c,d⟩,fun ⟨a,b,c,d⟩=>⟨a,b,c,d⟩⟩
theorem thRight_len {t:Thr} (h:thRight t=true):t.frames.length≤6∧t.left.length≤8:=by
 unfold thRight at h
 simp only [Bool.and_eq_true,decide_eq_true_eq] at h
 exact ⟨h.2.1,h.2.2.1⟩
theorem WdR.size {w:Wd} (h:WdR w):WdSz w:=by
 have h1:=h.code
 unfold rightC at h1
 rw [Bool.and_eq_true,decide_eq_true_eq] at h1
 refine ⟨by omega,h.tso.size,by have:=h.len;have:=h.tso.sz;omega,fun t ht=>?_⟩
 have:=thRight_len (h.thr t ht).1
 omega
theorem WdR.cl {w:Wd} (h:WdR w):w.code.length≤1000:=by
 have h1:=h.code
 unfold rightC at h1
 rw [Bool.and_eq_true,decide_eq_true_eq] at h1
 exact h1.1
theorem thrAt_at {w:Wd} {k:Nat} (h:k < w.thr.length):thrAt w k=at' w.thr (k:Int):=by
 rw [at_nat _ k h];unfold thrAt;simp [List.getD,h]
theorem at_out (w:Wd) (k:Int) (h:WdR w) (hk:inT w k=false):ACalls Tryz.prog 144 [encWd w,iv k] [] (one (.tup [.v (.pointer none),iv 3]) []):=by
 have h1:=wd_right w h.size
 rw [wRight_iff.2 h] at h1
 have e:inT w k=(!decide (k < 0) && !decide (k≥((w.thr.map encThr).length:Int))):=by
  unfold inT inn
  rw [List.length_map,dec_not (p:=k < 0) (q:=k≥0) (by omega),dec_not (p:=k≥(w.thr.length:Int)) (q:=k≤(w.thr.length:Int)-1) (by omega),Bool.not_not,Bool.not_not]
 rw [e] at hk
 unfold encWd wCells ivs at *
 cases h2:decide (k < 0) with
 | true =>
  refine jC Tryz.func144 Tryz.ntmps144 (fun w0 β0 ext hβ=>?_)
  repeat (first|refine jS ?_|refine jD ?_|refine jB ?_|refine jV h1 ?_)
  rw [h2]
  repeat (first|refine jS ?_|refine jD ?_|refine jB ?_)
  exact jR
 | false =>
  rw [h2] at hk
  have h3:decide (k≥((w.thr.map encThr).length:Int))=true:=by simpa using hk
  refine jC Tryz.func144 Tryz.ntmps144 (fun w0 β0 ext hβ=>?_)
  repeat (first|refine jS ?_|refine jD ?_|refine jB ?_|refine jV h1 ?_)
  rw [h2]
  repeat (first|refine jS ?_|refine jD ?_|refine jB ?_)
  rw [h3]
  repeat (first|refine jS ?_|refine jD ?_|refine jB ?_)
  exact jR
theorem at_ok (w:Wd) (k:Nat) (h:WdR w) (hk:k < w.thr.length):ACalls Tryz.prog 144 [encWd w,iv (k:Int)] [] (one (.tup [.ptr 0 0,iv 0]) (swH w k (thrAt w k) (instrAt w (thrAt w k)))):=by
 have h1:=wd_right w h.size
 rw [wRight_iff.2 h] at h1
 have h2:decide ((k:Int) < 0)=false:=decide_eq_false (by omega)
 have h3:decide ((k:Int)≥((w.thr.map encThr).length:Int))=false:=decide_eq_false (by rw [List.length_map];omega)
 have hk1:(k:Int) < w.thr.length:=by omega
 have htm:=at_mem hk
 have hpc:=thRight_pc (h.thr _ htm).1
 rw [thrAt_at hk]
 generalize hT:at' w.thr (k:Int)=t at *
 have h4:decide (t.pc < ((w.code.map encIns).length:Int))=decide (t.pc < w.code.length):=by rw [List.length_map]
 unfold instrAt
 rw [show w.code.getD t.pc.toNat default=at' w.code t.pc from rfl]
 unfold encWd wCells ivs at *
 cases hp:decide (t.pc < (w.code.length:Int)) with
 | false =>
  rw [hp] at h4
  simp only [cond_false]
  unfold swH swC
  refine jC Tryz.func144 Tryz.ntmps144 (fun w0 β0 ext hβ=>?_)
  repeat (first|refine jS ?_|refine jD ?_|refine jB ?_|refine jV h1 ?_)
  rw [h2]
  repeat (first|refine jS ?_|refine jD ?_|refine jB ?_)
  rw [h3]
  repeat (first|refine jS ?_|refine jD ?_|refine jB ?_|refine jI (Int.natCast_nonneg k) hk1 ?_)
  rw [hT]
  repeat (first|refine jS ?_|refine jD ?_|refine jB ?_)
  rw [h4]
  repeat (first|refine jS ?_|refine jD ?_|refine jB ?_)
  exact jret [1] true rfl rfl rfl ⟨rfl,rfl⟩
 | true =>
  rw [hp] at h4
  simp only [cond_true]
  have hp1:=of_decide_eq_true hp
  unfold swH swC
  refine jC Tryz.func144 Tryz.ntmps144 (fun w0 β0 ext hβ=>?_)
  repeat (first|refine jS ?_|refine jD ?_|refine jB ?_|refine jV h1 ?_)
  rw [h2]
  repeat (first|refine jS ?_|refine jD ?_|refine jB ?_)
  rw [h3]
  repeat (first|refine jS ?_|refine jD ?_|refine jB ?_|refine jI (Int.natCast_nonneg k) hk1 ?_)
  rw [hT]
  repeat (first|refine jS ?_|refine jD ?_|refine jB ?_)
  rw [h4]
  repeat (first|refine jS ?_|refine jD ?_|refine jB ?_|refine jI hpc.1 hp1 ?_)
  exact jret [1] true rfl rfl rfl ⟨rfl,rfl⟩
end Go.AL
end
section
set_option maxRecDepth 100000
namespace Go.AL
open Go Go.Proofs
attribute [local irreducible] J
structure DoR (w:Wd) (k:Nat) (t:Thr):Prop where
 tso:TsR w.tso
 k:k < w.tso.bufs.length
 frames:t.frames.length≤6
 left:t.left.length≤8
 pc:0≤t.pc∧t.pc≤1000
def rgs (v:Int):Prop:=0≤v∧v < 8
theorem pc_in {t:Thr} (h:0≤t.pc∧t.pc≤1000):IntKind.i64.wrap (t.pc+1)=t.pc+1:=by rw [wrap_id]<;>omega
theorem pc_out {t:Thr} (h:0≤t.pc∧t.pc≤1000):IntKind.i64.wrap (t.pc+1-1)=t.pc:=by rw [wrap_id]<;>omega
theorem do_halt (w:Wd) (k:Nat) (t:Thr) (a b c:Int) (h:DoR w k t)  :
  ACalls Tryz.prog 147 [.ptr 0 0] (swH w k t ⟨0,a,b,c⟩) (one (.tup []) (swH w k { t with state:=1 } ⟨0,a,b,c⟩)):=by
 have hw2:=pc_out h.pc
 have hw:=pc_in h.pc
 unfold swH swC
 refine jC Tryz.func147 Tryz.ntmps147 (fun w0 β0 ext hβ=>?_)
 repeat (first|refine jS ?_|refine jD ?_|refine jB ?_)
 rw [hw]
 repeat (first|refine jS ?_|refine jD ?_|refine jB ?_)
 rw [hw2]
 repeat (first|refine jS ?_|refine jD ?_|refine jB ?_)
 exact jend [] true rfl rfl rfl ⟨rfl,rfl⟩
theorem do_fence (w:Wd) (k:Nat) (t:Thr) (a b c:Int) (h:DoR w k t)  :
  ACalls Tryz.prog 147 [.ptr 0 0] (swH w k t ⟨18,a,b,c⟩) (one (.tup []) (swH w k (pc1 t) ⟨18,a,b,c⟩)):=by
 have hw:=pc_in h.pc
 unfold swH swC pc1 at *
 refine jC Tryz.func147 Tryz.ntmps147 (fun w0 β0 ext hβ=>?_)
 repeat (first|refine jS ?_|refine jD ?_|refine jB ?_)
 rw [hw]
 repeat (first|refine jS ?_|refine jD ?_|refine jB ?_)
 exact jend [] true rfl rfl rfl ⟨rfl,rfl⟩
theorem do_wait (w:Wd) (k:Nat) (t:Thr) (a b c:Int) (h:DoR w k t)  :
  ACalls Tryz.prog 147 [.ptr 0 0] (swH w k t ⟨23,a,b,c⟩) (one (.tup []) (swH w k (pc1 t) ⟨23,a,b,c⟩)):=by
 have hw:=pc_in h.pc
 unfold swH swC pc1 at *
 refine jC Tryz.func147 Tryz.ntmps147 (fun w0 β0 ext hβ=>?_)
 repeat (first|refine jS ?_|refine jD ?_|refine jB ?_)
 rw [hw]
 repeat (first|refine jS ?_|refine jD ?_|refine jB ?_)
 exact jend [] true rfl rfl rfl ⟨rfl,rfl⟩
theorem do_load_ok (w:Wd) (k:Nat) (t:Thr) (a b c:Int) (h:DoR w k t) (ha:rgs a) (hb:rgs b) (he:(tsLoad w.tso k (IntKind.i64.wrap (rg t b+c))).2=0) :
  ACalls Tryz.prog 147 [.ptr 0 0] (swH w k t ⟨16,a,b,c⟩) (one (.tup []) (swH w k (setR (pc1 t) a (tsLoad w.tso k (IntKind.i64.wrap (rg t b+c))).1) ⟨16,a,b,c⟩)):=by
 have h1:=sload_ok w k (pc1 t) ⟨16,a,b,c⟩ h.tso h.k ha.1 ha.2 hb.1 hb.2 he
 have hw:=pc_in h.pc
 unfold swH swC pc1 at *
 refine jC Tryz.func147 Tryz.ntmps147 (fun w0 β0 ext hβ=>?_)
 repeat (first|refine jS ?_|refine jD ?_|refine jB ?_)
 rw [hw]
 repeat (first|refine jS ?_|refine jD ?_|refine jB ?_)
 refine jBb [0] h1 ?_
 repeat (first|refine jS ?_|refine jD ?_|refine jB ?_)
 exact jend [] true rfl rfl rfl ⟨rfl,rfl⟩
theorem do_load_pan (w:Wd) (k:Nat) (t:Thr) (a b c:Int) (h:DoR w k t) (ha:rgs a) (hb:rgs b) (he:(tsLoad w.tso k (IntKind.i64.wrap (rg t b+c))).2≠0) :
  ACalls Tryz.prog 147 [.ptr 0 0] (swH w k t ⟨16,a,b,c⟩) (onep (fltA (tsLoad w.tso k (IntKind.i64.wrap (rg t b+c))).2) (swH w k (pc1 t) ⟨16,a,b,c⟩)):=by
 have h1:=sload_pan w k (pc1 t) ⟨16,a,b,c⟩ h.tso h.k ha.1 ha.2 hb.1 hb.2 he
 have hw:=pc_in h.pc
 unfold swH swC pc1 at *
 refine jC Tryz.func147 Tryz.ntmps147 (fun w0 β0 ext hβ=>?_)
 repeat (first|refine jS ?_|refine jD ?_|refine jB ?_)
 rw [hw]
 repeat (first|refine jS ?_|refine jD ?_|refine jB ?_)
 refine jbp [0] h1 rfl rfl rfl ⟨rfl,rfl,rfl,rfl,rfl,rfl⟩ rfl rfl rfl ?_
 exact qpan [] true rfl rfl rfl rfl
theorem do_store_ok (w:Wd) (k:Nat) (t:Thr) (a b c:Int) (h:DoR w k t) (ha:rgs a) (hb:rgs b) (he:(tsStore w.tso k (IntKind.i64.wrap (rg t b+c)) (rg t a)).2=0) :
  ACalls Tryz.prog 147 [.ptr 0 0] (swH w k t ⟨17,a,b,c⟩) (one (.tup []) (swH { w with tso:=(tsStore w.tso k (IntKind.i64.wrap (rg t b+c)) (rg t a)).1 } k (pc1 t) ⟨17,a,b,c⟩)):=by
 have h1:=sstore_ok w k (pc1 t) ⟨17,a,b,c⟩ h.tso h.k ha.1 ha.2 hb.1 hb.2 he
 have hw:=pc_in h.pc
 unfold swH swC pc1 at *
 refine jC Tryz.func147 Tryz.ntmps147 (fun w0 β0 ext hβ=>?_)
 repeat (first|refine jS ?_|refine jD ?_|refine jB ?_)
 rw [hw]
 repeat (first|refine jS ?_|refine jD ?_|refine jB ?_)
 refine jBb [0] h1 ?_
 repeat (first|refine jS ?_|refine jD ?_|refine jB ?_)
 exact jend [] true rfl rfl rfl ⟨rfl,rfl⟩
theorem do_store_pan (w:Wd) (k:Nat) (t:Thr) (a b c:Int) (h:DoR w k t) (ha:rgs a) (hb:rgs b) (he:(tsStore w.tso k (IntKind.i64.wrap (rg t b+c)) (rg t a)).2≠0) :
  ACalls Tryz.prog 147 [.ptr 0 0] (swH w k t ⟨17,a,b,c⟩) (onep (fltA (tsStore w.tso k (IntKind.i64.wrap (rg t b+c)) (rg t a)).2) (swH w k (pc1 t) ⟨17,a,b,c⟩)):=by
 have h1:=sstore_pan w k (pc1 t) ⟨17,a,b,c⟩ h.tso h.k ha.1 ha.2 hb.1 hb.2 he
 have hw:=pc_in h.pc
 unfold swH swC pc1 at *
 refine jC Tryz.func147 Tryz.ntmps147 (fun w0 β0 ext hβ=>?_)
 repeat (first|refine jS ?_|refine jD ?_|refine jB ?_)
 rw [hw]
 repeat (first|refine jS ?_|refine jD ?_|refine jB ?_)
 refine jbp [0] h1 rfl rfl rfl ⟨rfl,rfl,rfl,rfl,rfl,rfl⟩ rfl rfl rfl ?_
 exact qpan [] true rfl rfl rfl rfl
theorem do_own_ok (w:Wd) (k:Nat) (t:Thr) (a b c:Int) (h:DoR w k t) (ha:rgs a) (hb:rgs b) (he:(mMark w.tso.mem (rg t a) (rg t b) 1).2=0) :
  ACalls Tryz.prog 147 [.ptr 0 0] (swH w k t ⟨24,a,b,c⟩) (one (.tup []) (swH { w with tso:={ w.tso with mem:=(mMark w.tso.mem (rg t a) (rg t b) 1).1 } } k (pc1 t) ⟨24,a,b,c⟩)):=by
 have h1:=smark_ok w k (pc1 t) ⟨24,a,b,c⟩ 1 h.tso (by decide) ha.1 ha.2 hb.1 hb.2 he
 have hw:=pc_in h.pc
 unfold swH swC pc1 at *
 refine jC Tryz.func147 Tryz.ntmps147 (fun w0 β0 ext hβ=>?_)
 repeat (first|refine jS ?_|refine jD ?_|refine jB ?_)
 rw [hw]
 repeat (first|refine jS ?_|refine jD ?_|refine jB ?_)
 refine jBb [0] h1 ?_
 repeat (first|refine jS ?_|refine jD ?_|refine jB ?_)
 exact jend [] true rfl rfl rfl ⟨rfl,rfl⟩
theorem do_own_pan (w:Wd) (k:Nat) (t:Thr) (a b c:Int) (h:DoR w k t) (ha:rgs a) (hb:rgs b) (he:(mMark w.tso.mem (rg t a) (rg t b) 1).2≠0) :
  ACalls Tryz.prog 147 [.ptr 0 0] (swH w k t ⟨24,a,b,c⟩) (onep (fltA (mMark w.tso.mem (rg t a) (rg t b) 1).2) (swH w k (pc1 t) ⟨24,a,b,c⟩)):=by
 have h1:=smark_pan w k (pc1 t) ⟨24,a,b,c⟩ 1 h.tso (by decide) ha.1 ha.2 hb.1 hb.2 he
 have hw:=pc_in h.pc
 unfold swH swC pc1 at *
 refine jC Tryz.func147 Tryz.ntmps147 (fun w0 β0 ext hβ=>?_)
 repeat (first|refine jS ?_|refine jD ?_|refine jB ?_)
 rw [hw]
 repeat (first|refine jS ?_|refine jD ?_|refine jB ?_)
 refine jbp [0] h1 rfl rfl rfl ⟨rfl,rfl,rfl,rfl,rfl,rfl⟩ rfl rfl rfl ?_
 exact qpan [] true rfl rfl rfl rfl
theorem do_drop_ok (w:Wd) (k:Nat) (t:Thr) (a b c:Int) (h:DoR w k t) (ha:rgs a) (hb:rgs b) (he:(mMark w.tso.mem (rg t a) (rg t b) 2).2=0) :
  ACalls Tryz.prog 147 [.ptr 0 0] (swH w k t ⟨25,a,b,c⟩) (one (.tup []) (swH { w with tso:={ w.tso with mem:=(mMark w.tso.mem (rg t a) (rg t b) 2).1 } } k (pc1 t) ⟨25,a,b,c⟩)):=by
 have h1:=smark_ok w k (pc1 t) ⟨25,a,b,c⟩ 2 h.tso (by decide) ha.1 ha.2 hb.1 hb.2 he
 have hw:=pc_in h.pc
 unfold swH swC pc1 at *
 refine jC Tryz.func147 Tryz.ntmps147 (fun w0 β0 ext hβ=>?_)
 repeat (first|refine jS ?_|refine jD ?_|refine jB ?_)
 rw [hw]
 repeat (first|refine jS ?_|refine jD ?_|refine jB ?_)
 refine jBb [0] h1 ?_
 repeat (first|refine jS ?_|refine jD ?_|refine jB ?_)
 exact jend [] true rfl rfl rfl ⟨rfl,rfl⟩
theorem do_drop_pan (w:Wd) (k:Nat) (t:Thr) (a b c:Int) (h:DoR w k t) (ha:rgs a) (hb:rgs b) (he:(mMark w.tso.mem (rg t a) (rg t b) 2).2≠0) :
  ACalls Tryz.prog 147 [.ptr 0 0] (swH w k t ⟨25,a,b,c⟩) (onep (fltA (mMark w.tso.mem (rg t a) (rg t b) 2).2) (swH w k (pc1 t) ⟨25,a,b,c⟩)):=by
 have h1:=smark_pan w k (pc1 t) ⟨25,a,b,c⟩ 2 h.tso (by decide) ha.1 ha.2 hb.1 hb.2 he
 have hw:=pc_in h.pc
 unfold swH swC pc1 at *
 refine jC Tryz.func147 Tryz.ntmps147 (fun w0 β0 ext hβ=>?_)
 repeat (first|refine jS ?_|refine jD ?_|refine jB ?_)
 rw [hw]
 repeat (first|refine jS ?_|refine jD ?_|refine jB ?_)
 refine jbp [0] h1 rfl rfl rfl ⟨rfl,rfl,rfl,rfl,rfl,rfl⟩ rfl rfl rfl ?_
 exact qpan [] true rfl rfl rfl rfl
theorem do_cas_ok (w:Wd) (k:Nat) (t:Thr) (a b c:Int) (h:DoR w k t) (ha:rgs a) (hb:rgs b) (hc:rgs c) (he:(tsLocked w.tso k 0 (rg t b) (rg t a) (rg t c)).2.2=0) :
  ACalls Tryz.prog 147 [.ptr 0 0] (swH w k t ⟨19,a,b,c⟩) (one (.tup []) (swH { w with tso:=(tsLocked w.tso k 0 (rg t b) (rg t a) (rg t c)).1 } k (setR (pc1 t) a (tsLocked w.tso k 0 (rg t b) (rg t a) (rg t c)).2.1) ⟨19,a,b,c⟩)):=by
 have h1:=slocked_ok w k (pc1 t) ⟨19,a,b,c⟩ 0 (rg t c) h.tso h.k (by decide) ha.1 ha.2 hb.1 hb.2 he
 have hg:=sw_get w k (pc1 t) ⟨19,a,b,c⟩ hc.1 hc.2
 rw [show rg (pc1 t) c=rg t c from rfl] at hg
 have hw:=pc_in h.pc
 unfold swH swC pc1 at *
 refine jC Tryz.func147 Tryz.ntmps147 (fun w0 β0 ext hβ=>?_)
 repeat (first|refine jS ?_|refine jB ?_)
 rw [hw]
 repeat (first|refine jS ?_|refine jB ?_)
 refine jdrawPT [(0,.p),(1,.p),(2,.p),(3,.p),(4,.p),(5,.p),(6,.r),(7,.p),(8,.p),(9,.p),(10,.p),(11,.r),(12,.m)] rfl (by kernel_rfl) ?_
 repeat (first|refine jS ?_|refine jD ?_|refine jB ?_|refine jo rfl rfl (index_arr rfl rfl rfl rfl rfl hc.1 hc.2) rfl rfl ?_|refine jo rfl rfl (load_dsem (r:=ty3) rfl rfl rfl hg) rfl rfl ?_)
 refine jBb [0] h1 ?_
 repeat (first|refine jS ?_|refine jD ?_|refine jB ?_)
 exact jend [] true rfl rfl rfl ⟨rfl,rfl⟩
theorem do_cas_pan (w:Wd) (k:Nat) (t:Thr) (a b c:Int) (h:DoR w k t) (ha:rgs a) (hb:rgs b) (hc:rgs c) (he:(tsLocked w.tso k 0 (rg t b) (rg t a) (rg t c)).2.2≠0) :
  ACalls Tryz.prog 147 [.ptr 0 0] (swH w k t ⟨19,a,b,c⟩) (onep (fltA (tsLocked w.tso k 0 (rg t b) (rg t a) (rg t c)).2.2) (swH w k (pc1 t) ⟨19,a,b,c⟩)):=by
 have h1:=slocked_pan w k (pc1 t) ⟨19,a,b,c⟩ 0 (rg t c) h.tso h.k (by decide) ha.1 ha.2 hb.1 hb.2 he
 have hg:=sw_get w k (pc1 t) ⟨19,a,b,c⟩ hc.1 hc.2
 rw [show rg (pc1 t) c=rg t c from rfl] at hg
 have hw:=pc_in h.pc
 unfold swH swC pc1 at *
 refine jC Tryz.func147 Tryz.ntmps147 (fun w0 β0 ext hβ=>?_)
 repeat (first|refine jS ?_|refine jB ?_)
 rw [hw]
 repeat (first|refine jS ?_|refine jB ?_)
 refine jdrawE [(0,.p),(1,.p),(2,.p),(3,.p),(4,.p),(5,.p),(6,.r),(7,.p),(8,.p),(9,.p),(10,.p),(11,.r)] rfl rfl (by kernel_rfl) (by kernel_rfl) ?_
 repeat (first|refine jS ?_|refine jD ?_|refine jB ?_|refine jo rfl rfl (index_arr rfl rfl rfl rfl rfl hc.1 hc.2) rfl rfl ?_|refine jo rfl rfl (load_dsem (r:=ty3) rfl rfl rfl hg) rfl rfl ?_)
 refine jonly ?_
 refine jbp [0] h1 rfl rfl rfl ⟨rfl,rfl,rfl,rfl,rfl,rfl⟩ rfl rfl rfl ?_
 exact qpan [] true rfl rfl rfl rfl
theorem do_xchg_ok (w:Wd) (k:Nat) (t:Thr) (a b c:Int) (h:DoR w k t) (ha:rgs a) (hb:rgs b) (he:(tsLocked w.tso k 1 (rg t b) (rg t a) 0).2.2=0) :
  ACalls Tryz.prog 147 [.ptr 0 0] (swH w k t ⟨20,a,b,c⟩) (one (.tup []) (swH { w with tso:=(tsLocked w.tso k 1 (rg t b) (rg t a) 0).1 } k (setR (pc1 t) a (tsLocked w.tso k 1 (rg t b) (rg t a) 0).2.1) ⟨20,a,b,c⟩)):=by
 have h1:=slocked_ok w k (pc1 t) ⟨20,a,b,c⟩ 1 0 h.tso h.k (by decide) ha.1 ha.2 hb.1 hb.2 he
 have hw:=pc_in h.pc
 unfold swH swC pc1 at *
 refine jC Tryz.func147 Tryz.ntmps147 (fun w0 β0 ext hβ=>?_)
 repeat (first|refine jS ?_|refine jD ?_|refine jB ?_)
 rw [hw]
 repeat (first|refine jS ?_|refine jD ?_|refine jB ?_)
 refine jBb [0] h1 ?_
 repeat (first|refine jS ?_|refine jD ?_|refine jB ?_)
 exact jend [] true rfl rfl rfl ⟨rfl,rfl⟩
theorem do_xchg_pan (w:Wd) (k:Nat) (t:Thr) (a b c:Int) (h:DoR w k t) (ha:rgs a) (hb:rgs b) (he:(tsLocked w.tso k 1 (rg t b) (rg t a) 0).2.2≠0) :
  ACalls Tryz.prog 147 [.ptr 0 0] (swH w k t ⟨20,a,b,c⟩) (onep (fltA (tsLocked w.tso k 1 (rg t b) (rg t a) 0).2.2) (swH w k (pc1 t) ⟨20,a,b,c⟩)):=by
 have h1:=slocked_pan w k (pc1 t) ⟨20,a,b,c⟩ 1 0 h.tso h.k (by decide) ha.1 ha.2 hb.1 hb.2 he
 have hw:=pc_in h.pc
 unfold swH swC pc1 at *
 refine jC Tryz.func147 Tryz.ntmps147 (fun w0 β0 ext hβ=>?_)
 repeat (first|refine jS ?_|refine jD ?_|refine jB ?_)
 rw [hw]
 repeat (first|refine jS ?_|refine jD ?_|refine jB ?_)
 refine jbp [0] h1 rfl rfl rfl ⟨rfl,rfl,rfl,rfl,rfl,rfl⟩ rfl rfl rfl ?_
 exact qpan [] true rfl rfl rfl rfl
theorem do_fetch_ok (w:Wd) (k:Nat) (t:Thr) (a b c:Int) (h:DoR w k t) (ha:rgs a) (hb:rgs b) (he:(tsLocked w.tso k 2 (rg t b) (rg t a) 0).2.2=0) :
  ACalls Tryz.prog 147 [.ptr 0 0] (swH w k t ⟨21,a,b,c⟩) (one (.tup []) (swH { w with tso:=(tsLocked w.tso k 2 (rg t b) (rg t a) 0).1 } k (setR (pc1 t) a (tsLocked w.tso k 2 (rg t b) (rg t a) 0).2.1) ⟨21,a,b,c⟩)):=by
 have h1:=slocked_ok w k (pc1 t) ⟨21,a,b,c⟩ 2 0 h.tso h.k (by decide) ha.1 ha.2 hb.1 hb.2 he
 have hw:=pc_in h.pc
 unfold swH swC pc1 at *
 refine jC Tryz.func147 Tryz.ntmps147 (fun w0 β0 ext hβ=>?_)
 repeat (first|refine jS ?_|refine jD ?_|refine jB ?_)
 rw [hw]
 repeat (first|refine jS ?_|refine jD ?_|refine jB ?_)
 refine jBb [0] h1 ?_
 repeat (first|refine jS ?_|refine jD ?_|refine jB ?_)
 exact jend [] true rfl rfl rfl ⟨rfl,rfl⟩
theorem do_fetch_pan (w:Wd) (k:Nat) (t:Thr) (a b c:Int) (h:DoR w k t) (ha:rgs a) (hb:rgs b) (he:(tsLocked w.tso k 2 (rg t b) (rg t a) 0).2.2≠0) :
  ACalls Tryz.prog 147 [.ptr 0 0] (swH w k t ⟨21,a,b,c⟩) (onep (fltA (tsLocked w.tso k 2 (rg t b) (rg t a) 0).2.2) (swH w k (pc1 t) ⟨21,a,b,c⟩)):=by
 have h1:=slocked_pan w k (pc1 t) ⟨21,a,b,c⟩ 2 0 h.tso h.k (by decide) ha.1 ha.2 hb.1 hb.2 he
 have hw:=pc_in h.pc
 unfold swH swC pc1 at *
 refine jC Tryz.func147 Tryz.ntmps147 (fun w0 β0 ext hβ=>?_)
 repeat (first|refine jS ?_|refine jD ?_|refine jB ?_)
 rw [hw]
 repeat (first|refine jS ?_|refine jD ?_|refine jB ?_)
 refine jbp [0] h1 rfl rfl rfl ⟨rfl,rfl,rfl,rfl,rfl,rfl⟩ rfl rfl rfl ?_
 exact qpan [] true rfl rfl rfl rfl
theorem sub_one (t:Thr) (x:List Int):({ pc1 t with pc:=(pc1 t).pc-1,left:=x }:Thr) = { t with left:=x }:=by
 unfold pc1;simp
theorem do_broad_some (w:Wd) (k:Nat) (t:Thr) (a b c:Int) (h:DoR w k t) (hl:0 < t.left.length) :
  ACalls Tryz.prog 147 [.ptr 0 0] (swH w k t ⟨22,a,b,c⟩) (one (.tup []) (swH w k { pc1 t with left:=[] } ⟨22,a,b,c⟩)):=by
 have h1:=sbroad_some w k (pc1 t) ⟨22,a,b,c⟩ hl
 have hw:=pc_in h.pc
 unfold swH swC pc1 at *
 refine jC Tryz.func147 Tryz.ntmps147 (fun w0 β0 ext hβ=>?_)
 repeat (first|refine jS ?_|refine jD ?_|refine jB ?_)
 rw [hw]
 repeat (first|refine jS ?_|refine jD ?_|refine jB ?_)
 refine jBb [0] h1 ?_
 repeat (first|refine jS ?_|refine jD ?_|refine jB ?_)
 exact jend [] true rfl rfl rfl ⟨rfl,rfl⟩
theorem do_broad_none (w:Wd) (k:Nat) (t:Thr) (a b c:Int) (h:DoR w k t) (hl:t.left=[]) :
  ACalls Tryz.prog 147 [.ptr 0 0] (swH w k t ⟨22,a,b,c⟩) (one (.tup []) (swH w k { t with left:=lens w.tso.bufs } ⟨22,a,b,c⟩)):=by
 have h1:=sbroad_none w k (pc1 t) ⟨22,a,b,c⟩ hl (by have:=h.pc;show 1≤t.pc+1;omega) (by have:=h.pc;show t.pc+1≤1001;omega) h.tso.sz.1.1 h.tso.sz.1.2
 have hb:=sub_one t (lens w.tso.bufs)
 rw [hb] at h1
 have hw:=pc_in h.pc
 unfold swH swC pc1 at *
 refine jC Tryz.func147 Tryz.ntmps147 (fun w0 β0 ext hβ=>?_)
 repeat (first|refine jS ?_|refine jD ?_|refine jB ?_)
 rw [hw]
 repeat (first|refine jS ?_|refine jD ?_|refine jB ?_)
 refine jBb [0] h1 ?_
 repeat (first|refine jS ?_|refine jD ?_|refine jB ?_)
 exact jend [] true rfl rfl rfl ⟨rfl,rfl⟩
theorem do_mark (w:Wd) (k:Nat) (t:Thr) (a b c:Int) (h:DoR w k t) (he:w.evs.length≤1000000) :
  ACalls Tryz.prog 147 [.ptr 0 0] (swH w k t ⟨26,a,b,c⟩) (one (.tup []) (swH { w with evs:=w.evs++[(⟨a,k,[g0 t.regs 0,g0 t.regs 1,g0 t.regs 2,g0 t.regs 3]⟩:Evt)] } k (pc1 t) ⟨26,a,b,c⟩)):=by
 have hcl:=clip_evt w.evs
 have hev:w.evs.map encEvt++[encEvt (⟨a,k,[g0 t.regs 0,g0 t.regs 1,g0 t.regs 2,g0 t.regs 3]⟩:Evt)]=(w.evs++[(⟨a,k,[g0 t.regs 0,g0 t.regs 1,g0 t.regs 2,g0 t.regs 3]⟩:Evt)]).map encEvt:=by rw [List.map_append];rfl
 have hel:∀ l:List Evt,ElemsOk 6 (l.map encEvt):=fun l y hy=>by
  obtain ⟨a,_,rfl⟩:=List.mem_map.1 hy
  exact ⟨rfl,rfl⟩
 have hw:=pc_in h.pc
 unfold swH swC pc1 at *
 refine jC Tryz.func147 Tryz.ntmps147 (fun w0 β0 ext hβ=>?_)
 repeat (first|refine jS ?_|refine jD ?_|refine jB ?_)
 rw [hw]
 repeat (first|refine jS ?_|refine jD ?_|refine jB ?_|refine jV hcl ?_|refine jo rfl rfl (slice_box 0 4 rfl rfl ⟨_,rfl⟩ rfl rfl rfl (by decide) (by decide) (by decide)) rfl rfl ?_|refine jo rfl rfl (arr_at rfl rfl rfl (by decide)) rfl rfl ?_)
 refine jo rfl rfl (append_new (ys:=[encEvt (⟨a,k,[g0 t.regs 0,g0 t.regs 1,g0 t.regs 2,g0 t.regs 3]⟩:Evt)]) rfl rfl (.sl rfl) rfl rfl rfl rfl rfl (hel _) (hel [(⟨a,k,[g0 t.regs 0,g0 t.regs 1,g0 t.regs 2,g0 t.regs 3]⟩:Evt)]) rfl (by simp) (by simp [ty49];omega) (by simp;omega)) rfl rfl ?_
 rw [hev]
 repeat (first|refine jS ?_|refine jD ?_|refine jB ?_)
 exact jend [] true rfl rfl rfl ⟨rfl,rfl⟩
theorem do_end (w:Wd) (k:Nat) (t:Thr) (a b c:Int) (h:DoR w k t)  :
  ACalls Tryz.prog 147 [.ptr 0 0] (swH w k t ⟨27,a,b,c⟩) (onep (fltA 3) (swH w k (pc1 t) ⟨27,a,b,c⟩)):=by
 have h1:=must_pan 3 (by decide)
 have hw:=pc_in h.pc
 unfold swH swC pc1 at *
 refine jC Tryz.func147 Tryz.ntmps147 (fun w0 β0 ext hβ=>?_)
 repeat (first|refine jS ?_|refine jD ?_|refine jB ?_)
 rw [hw]
 repeat (first|refine jS ?_|refine jD ?_|refine jB ?_)
 refine jbp [] h1 rfl rfl rfl ⟨rfl,rfl,rfl,rfl,rfl,rfl⟩ rfl rfl rfl ?_
 exact qpan [] true rfl rfl rfl rfl
theorem do_lo_ok (w:Wd) (k:Nat) (t:Thr) (i:Ins) (h:DoR w k t) (h1:1≤i.op) (h15:i.op≤15) (he:(loApply k i t).2=0) :
  ACalls Tryz.prog 147 [.ptr 0 0] (swH w k t i) (one (.tup []) (swH w k (loApply k i t).1 i)):=by
 have ha:=apply_ok t k i (by have:=h.frames;omega) (by have:=h.left;omega)
 have d1:decide (i.op≥1)=true:=decide_eq_true h1
 have d2:decide (i.op≤15)=true:=decide_eq_true h15
 generalize loApply k i t=p at *
 obtain ⟨p1,e⟩:=p
 simp only at he
 subst he
 have hm:=must_ok
 rw [show resThr (p1,0)=encThr p1 from rfl] at ha
 unfold encIns encThr thCells at ha
 unfold swH swC
 simp only at ha ⊢
 refine jC Tryz.func147 Tryz.ntmps147 (fun w0 β0 ext hβ=>?_)
 repeat (first|refine jS ?_|refine jD ?_|refine jB ?_)
 rw [d1]
 repeat (first|refine jS ?_|refine jD ?_|refine jB ?_)
 rw [d2]
 repeat (first|refine jS ?_|refine jD ?_|refine jB ?_|refine jV ha ?_|refine jV hm ?_)
 exact jR
theorem do_lo_pan (w:Wd) (k:Nat) (t:Thr) (i:Ins) (h:DoR w k t) (h1:1≤i.op) (h15:i.op≤15) (he:(loApply k i t).2≠0) :
  ACalls Tryz.prog 147 [.ptr 0 0] (swH w k t i) (onep (fltA (loApply k i t).2) (swH w k t i)):=by
 have ha:=apply_ok t k i (by have:=h.frames;omega) (by have:=h.left;omega)
 have d1:decide (i.op≥1)=true:=decide_eq_true h1
 have d2:decide (i.op≤15)=true:=decide_eq_true h15
 generalize loApply k i t=p at *
 obtain ⟨p1,e⟩:=p
 simp only at he
 have hm:=must_pan e he
 rw [show resThr (p1,e)=thrE0 by unfold resThr;rw [decide_eq_false he];rfl] at ha
 unfold encIns thrE0 encThr thCells at ha
 unfold swH swC
 simp only at ha ⊢
 refine jC Tryz.func147 Tryz.ntmps147 (fun w0 β0 ext hβ=>?_)
 repeat (first|refine jS ?_|refine jD ?_|refine jB ?_)
 rw [d1]
 repeat (first|refine jS ?_|refine jD ?_|refine jB ?_)
 rw [d2]
 repeat (first|refine jS ?_|refine jD ?_|refine jB ?_|refine jV ha ?_)
 refine jbp [] hm rfl rfl rfl ⟨rfl,rfl,rfl,rfl,rfl,rfl⟩ rfl rfl rfl ?_
 exact qpan [] true rfl rfl rfl rfl
end Go.AL
end
section
set_option maxRecDepth 100000
namespace Go.AL
open Go Go.Proofs
attribute [local irreducible] J
structure InsR (i:Ins):Prop where
 op:0≤i.op∧i.op≤27
 ab:i.op=16∨i.op=17∨i.op=19∨i.op=20∨i.op=21∨i.op=23∨i.op=24∨i.op=25→rgs i.a∧rgs i.b
 c:i.op=19→rgs i.c
theorem rgs_of {v:Int} (h:inn v 0 7=true):rgs v:=by have:=inn_iff.1 h;exact ⟨by omega,by omega⟩
theorem may_ab {n:Nat} {op a b c:Int} (h:mayI n ⟨op,a,b,c⟩=true) (ho:op=16∨op=17∨op=19∨op=20∨op=21∨op=23∨op=24∨op=25):rgs a∧rgs b:=by
 have key:∀ {x:Bool} {y z:Bool},(x&&(inn a 0 7&&(inn b 0 7&&y)))=true→rgs a∧rgs b:=fun {x y z} h=>by
  simp only [Bool.and_eq_true] at h
  exact ⟨rgs_of h.2.1,rgs_of h.2.2.1⟩
 rcases ho with rfl|rfl|rfl|rfl|rfl|rfl|rfl|rfl<;>exact key (z:=true) h
theorem may_c {n:Nat} {a b c:Int} (h:mayI n ⟨19,a,b,c⟩=true):rgs c:=by
 have key:∀ {x y z:Bool},(x&&(y&&(z&&inn c 0 7)))=true→rgs c:=fun {x y z} h=>by
  simp only [Bool.and_eq_true] at h
  exact rgs_of h.2.2.2
 exact key h
theorem insR_may {n:Nat} {i:Ins} (h:mayI n i=true):InsR i:=by
 obtain ⟨op,a,b,c⟩:=i
 have h0:inn op 0 26=true:=by
  unfold mayI at h
  simp only [Bool.and_eq_true] at h
  exact h.1
 have h0:=inn_iff.1 h0
 refine ⟨⟨h0.1,by show op≤27;omega⟩,fun ho=>may_ab h ho,fun ho=>?_⟩
 have ho:op=19:=ho
 subst ho
 exact may_c h
theorem insR_end:InsR ⟨27,0,0,0⟩:=⟨by decide,fun h=>by simp at h,fun h=>by simp at h⟩
theorem insR_at {w:Wd} {t:Thr} (h:WdR w) (hp:0≤t.pc):InsR (instrAt w t):=by
 unfold instrAt
 cases hb:decide (t.pc < (w.code.length:Int)) with
 | false=>exact insR_end
 | true =>
  have hb:=of_decide_eq_true hb
  have hc:=h.code
  unfold rightC at hc
  rw [Bool.and_eq_true,List.all_eq_true] at hc
  have hlt:t.pc.toNat < w.code.length:=by omega
  have:w.code.getD t.pc.toNat default=w.code[t.pc.toNat]:=by simp [List.getD,hlt]
  rw [cond_true,this]
  exact insR_may (hc.2 _ (List.getElem_mem hlt))
theorem doN_lo (w:Wd) (k:Nat) (t:Thr) {op:Int} (a b c:Int) (h1:1≤op) (h15:op≤15):doN w k t ⟨op,a,b,c⟩=(w,(loApply k ⟨op,a,b,c⟩ t).1,(loApply k ⟨op,a,b,c⟩ t).2):=by
 rcases inn15 (inn_iff.2 ⟨h1,h15⟩) with rfl|rfl|rfl|rfl|rfl|rfl|rfl|rfl|rfl|rfl|rfl|rfl|rfl|rfl|rfl<;>rfl
theorem sdo_ok (w:Wd) (k:Nat) (t:Thr) (i:Ins) (h:DoR w k t) (hi:InsR i) (hev:w.evs.length≤1000000) (he:(doN w k t i).2.2=0) :
  ACalls Tryz.prog 147 [.ptr 0 0] (swH w k t i) (one (.tup []) (swH (doN w k t i).1 k (doN w k t i).2.1 i)):=by
 obtain ⟨op,a,b,c⟩:=i
 obtain ⟨⟨o0,o1⟩,hab,hc⟩:=hi
 simp only at o0 o1 hab hc
 rcases (by omega:op=0∨(1≤op∧op≤15)∨op=16∨op=17∨op=18∨op=19∨op=20∨op=21∨op=22∨op=23∨op=24∨op=25∨op=26∨op=27) with rfl|ho|rfl|rfl|rfl|rfl|rfl|rfl|rfl|rfl|rfl|rfl|rfl|rfl
 ·exact do_halt w k t a b c h
 ·have e:=doN_lo w k t a b c ho.1 ho.2
  rw [e] at he ⊢
  exact do_lo_ok w k t _ h ho.1 ho.2 he
 ·exact do_load_ok w k t a b c h (hab (by decide)).1 (hab (by decide)).2 he
 ·exact do_store_ok w k t a b c h (hab (by decide)).1 (hab (by decide)).2 he
 ·exact do_fence w k t a b c h
 ·exact do_cas_ok w k t a b c h (hab (by decide)).1 (hab (by decide)).2 (hc (by decide)) he
 ·exact do_xchg_ok w k t a b c h (hab (by decide)).1 (hab (by decide)).2 he
 ·exact do_fetch_ok w k t a b c h (hab (by decide)).1 (hab (by decide)).2 he
 ·have e:doN w k t ⟨22,a,b,c⟩=cond (decide (0 < t.left.length)) (w,{ pc1 t with left:=[] },0) (w,{ t with left:=lens w.tso.bufs },0):=rfl
  rw [e]
  cases hl:decide (0 < t.left.length) with
  | true=>exact do_broad_some w k t a b c h (of_decide_eq_true hl)
  | false=>exact do_broad_none w k t a b c h (List.length_eq_zero_iff.1 (by have:=of_decide_eq_false hl;omega))
 ·exact do_wait w k t a b c h
 ·exact do_own_ok w k t a b c h (hab (by decide)).1 (hab (by decide)).2 he
 ·exact do_drop_ok w k t a b c h (hab (by decide)).1 (hab (by decide)).2 he
 ·exact do_mark w k t a b c h hev
 ·exact absurd (show (3:Int)=0 from he) (by decide)
theorem sdo_pan (w:Wd) (k:Nat) (t:Thr) (i:Ins) (h:DoR w k t) (hi:InsR i) (he:(doN w k t i).2.2≠0) :
  ∃ t',ACalls Tryz.prog 147 [.ptr 0 0] (swH w k t i) (onep (fltA (doN w k t i).2.2) (swH w k t' i)):=by
 obtain ⟨op,a,b,c⟩:=i
 obtain ⟨⟨o0,o1⟩,hab,hc⟩:=hi
 simp only at o0 o1 hab hc
 rcases (by omega:op=0∨(1≤op∧op≤15)∨op=16∨op=17∨op=18∨op=19∨op=20∨op=21∨op=22∨op=23∨op=24∨op=25∨op=26∨op=27) with rfl|ho|rfl|rfl|rfl|rfl|rfl|rfl|rfl|rfl|rfl|rfl|rfl|rfl
 ·exact absurd rfl he
 ·have e:=doN_lo w k t a b c ho.1 ho.2
  rw [e] at he ⊢
  exact ⟨_,do_lo_pan w k t _ h ho.1 ho.2 he⟩
 ·exact ⟨_,do_load_pan w k t a b c h (hab (by decide)).1 (hab (by decide)).2 he⟩
 ·exact ⟨_,do_store_pan w k t a b c h (hab (by decide)).1 (hab (by decide)).2 he⟩
 ·exact absurd rfl he
 ·exact ⟨_,do_cas_pan w k t a b c h (hab (by decide)).1 (hab (by decide)).2 (hc (by decide)) he⟩
 ·exact ⟨_,do_xchg_pan w k t a b c h (hab (by decide)).1 (hab (by decide)).2 he⟩
 ·exact ⟨_,do_fetch_pan w k t a b c h (hab (by decide)).1 (hab (by decide)).2 he⟩
 ·exfalso
  have e:doN w k t ⟨22,a,b,c⟩=cond (decide (0 < t.left.length)) (w,{ pc1 t with left:=[] },0) (w,{ t with left:=lens w.tso.bufs },0):=rfl
  rw [e] at he
  cases hl:decide (0 < t.left.length)<;>rw [hl] at he<;>exact he rfl
 ·exact absurd rfl he
 ·exact ⟨_,do_own_pan w k t a b c h (hab (by decide)).1 (hab (by decide)).2 he⟩
 ·exact ⟨_,do_drop_pan w k t a b c h (hab (by decide)).1 (hab (by decide)).2 he⟩
 ·exact absurd rfl he
 ·exact ⟨_,do_end w k t a b c h⟩
def fltT (t:Thr) (e:Int):Thr:={ t with state:=2,fault:=e }
def tryH (a b:List AVal):List AObj:=[.box 233 a,.box 228 [.ptr 0 0],.box 233 b]
theorem clo_none (w w1:Wd) (k:Int) (t t1:Thr) (i:Ins):ADCalls Tryz.prog 188 [.ptr 2 0,.ptr 1 0] (tryH (swC w1 k t1 i) (swC w k t i)) none (tryH (swC w1 k t1 i) (swC w k t i)):=by
 unfold tryH swC
 refine adcalls_intro Tryz.func188 rfl (by kernel_rfl) Tryz.ntmps188 rfl rfl rfl rfl (fun w0 β0 ext hβ=>?_)
 unfold rvOf
 repeat (first|refine jS ?_|refine jD ?_|refine jB ?_|refine jo rfl rfl (ne_nilI rfl rfl rfl) rfl rfl ?_)
 exact jend [] false rfl rfl rfl ⟨rfl,rfl⟩
theorem clo_pan (w w1:Wd) (k:Nat) (t t1:Thr) (i:Ins) (e:Int) (hk:k < w.thr.length) (hl:w.thr.length≤8) :
  ADCalls Tryz.prog 188 [.ptr 2 0,.ptr 1 0] (tryH (swC w1 k t1 i) (swC w k t i)) (some (fltA e)) (tryH (swC (setT w k (fltT t e)) k (fltT t e) i) (swC w k t i)):=by
 have hp:=put_ok w k (fltT t e) i hk hl
 unfold swH at hp
 unfold tryH
 unfold swC fltT setT at *
 simp only at *
 refine adcalls_intro Tryz.func188 rfl (by kernel_rfl) Tryz.ntmps188 rfl rfl rfl rfl (fun w0 β0 ext hβ=>?_)
 have hns:∀ ms,ty279.d ≠ .interface ms:=by intro ms h;cases h
 unfold rvOf fltA
 simp only
 repeat (first|refine jS ?_|refine jB ?_|refine jo rfl rfl (ne_ifc rfl rfl rfl) rfl rfl ?_|refine jo rfl rfl (ta_ok rfl rfl hns) rfl rfl ?_)
 refine jmid [1] [.ptr 1 0] (tryH (swC w k (fltT t e) i) (swC w k t i)++[.box 279 [iv e]]) ?_ ?_
 ·refine jorders (Ls:=[[0,1,2,3,4,5,6,7,8,9,10,11],[0,1,2,4,3,5,6,7,8,9,10,11],[0,1,2,4,5,3,6,7,8,9,10,11],[0,1,2,4,5,6,3,7,8,9,10,11],[0,1,2,4,5,6,7,3,8,9,10,11],[0,1,4,2,3,5,6,7,8,9,10,11],[0,1,4,2,5,3,6,7,8,9,10,11],[0,1,4,2,5,6,3,7,8,9,10,11],[0,1,4,2,5,6,7,3,8,9,10,11],[0,1,4,5,2,3,6,7,8,9,10,11],[0,1,4,5,2,6,3,7,8,9,10,11],[0,1,4,5,2,6,7,3,8,9,10,11],[0,1,4,5,6,2,3,7,8,9,10,11],[0,1,4,5,6,2,7,3,8,9,10,11],[0,1,4,5,6,7,2,3,8,9,10,11],[0,2,1,3,4,5,6,7,8,9,10,11],[0,2,1,4,3,5,6,7,8,9,10,11],[0,2,1,4,5,3,6,7,8,9,10,11],[0,2,1,4,5,6,3,7,8,9,10,11],[0,2,1,4,5,6,7,3,8,9,10,11],[0,2,3,1,4,5,6,7,8,9,10,11],[1,0,2,3,4,5,6,7,8,9,10,11],[1,0,2,4,3,5,6,7,8,9,10,11],[1,0,2,4,5,3,6,7,8,9,10,11],[1,0,2,4,5,6,3,7,8,9,10,11],[1,0,2,4,5,6,7,3,8,9,10,11],[1,0,4,2,3,5,6,7,8,9,10,11],[1,0,4,2,5,3,6,7,8,9,10,11],[1,0,4,2,5,6,3,7,8,9,10,11],[1,0,4,2,5,6,7,3,8,9,10,11],[1,0,4,5,2,3,6,7,8,9,10,11],[1,0,4,5,2,6,3,7,8,9,10,11],[1,0,4,5,2,6,7,3,8,9,10,11],[1,0,4,5,6,2,3,7,8,9,10,11],[1,0,4,5,6,2,7,3,8,9,10,11],[1,0,4,5,6,7,2,3,8,9,10,11],[1,2,0,3,4,5,6,7,8,9,10,11],[1,2,0,4,3,5,6,7,8,9,10,11],[1,2,0,4,5,3,6,7,8,9,10,11],[1,2,0,4,5,6,3,7,8,9,10,11],[1,2,0,4,5,6,7,3,8,9,10,11],[1,2,3,0,4,5,6,7,8,9,10,11],[2,0,1,3,4,5,6,7,8,9,10,11],[2,0,1,4,3,5,6,7,8,9,10,11],[2,0,1,4,5,3,6,7,8,9,10,11],[2,0,1,4,5,6,3,7,8,9,10,11],[2,0,1,4,5,6,7,3,8,9,10,11],[2,0,3,1,4,5,6,7,8,9,10,11],[2,1,0,3,4,5,6,7,8,9,10,11],[2,1,0,4,3,5,6,7,8,9,10,11],[2,1,0,4,5,3,6,7,8,9,10,11],[2,1,0,4,5,6,3,7,8,9,10,11],[2,1,0,4,5,6,7,3,8,9,10,11],[2,1,3,0,4,5,6,7,8,9,10,11],[2,3,0,1,4,5,6,7,8,9,10,11],[2,3,1,0,4,5,6,7,8,9,10,11]]) (by kernel_rfl) ?_
  repeat' (first|exact List.forall_mem_nil _|refine List.forall_mem_cons.2 ⟨?_,?_⟩)
  all_goals (
   repeat (first|refine jS ?_|refine jD ?_|refine jB ?_)
  )
  all_goals exact jmeet rfl rfl
 ·unfold tryH swC fltT
  repeat (first|refine jS ?_|refine jD ?_|refine jB ?_)
  refine jBb [0] hp ?_
  repeat (first|refine jS ?_|refine jD ?_|refine jB ?_)
  exact jend [] false rfl rfl rfl ⟨rfl,rfl⟩
theorem try_ok (w w1:Wd) (k:Nat) (t t1:Thr) (i:Ins) (hk:k < w1.thr.length) (hl:w1.thr.length≤8)
  (hd:ACalls Tryz.prog 147 [.ptr 0 0] (swH w k t i) (one (.tup []) (swH w1 k t1 i))) :
  ACalls Tryz.prog 146 [.ptr 0 0,.fn (.func 147) [.ptr 0 0] []] (swH w k t i) (one (.tup []) (swH (setT w1 k t1) k t1 i)):=by
 have hp:=put_ok w1 k t1 i hk hl
 have hcl:=clo_none w (setT w1 k t1) k t t1 i
 unfold tryH at hcl
 unfold swH at *
 generalize hc0:swC w k t i=c0 at *
 generalize hc1:swC w1 k t1 i=c1 at *
 generalize hc2:swC (setT w1 k t1) k t1 i=c2 at *
 unfold swC at hc0 hc1 hc2
 subst hc0 hc1 hc2
 refine acalls_try Tryz.func146 rfl (by kernel_rfl) Tryz.ntmps146 rfl rfl (fun w0 β0 ext hβ=>?_)
 repeat (first|refine jS ?_|refine jD ?_|refine jB ?_)
 refine jonly ?_
 repeat (first|refine jS ?_|refine jD ?_|refine jB ?_)
 refine jonly ?_
 repeat (first|refine jS ?_|refine jD ?_|refine jB ?_)
 refine jonly ⟨188,[],[.ptr 2 0,.ptr 1 0],rfl,⟨_,Tryz.func188,by kernel_rfl,by kernel_rfl⟩,fun w2 β2 d=>?_⟩
 repeat (first|refine jS ?_|refine jD ?_|refine jB ?_)
 refine jBb [0] hd ?_
 repeat (first|refine jS ?_|refine jD ?_|refine jB ?_)
 refine jBb [0] hp ?_
 repeat (first|refine jS ?_|refine jD ?_|refine jB ?_)
 exact jat ⟨_,_,[],true,hcl,rfl,rfl,rfl,rfl⟩
end Go.AL
end
section
set_option maxRecDepth 100000
namespace Go.AL
open Go Go.Proofs
attribute [local irreducible] J
theorem try_pan (w w1:Wd) (k:Nat) (t t1:Thr) (i:Ins) (e:Int) (hk:k < w.thr.length) (hl:w.thr.length≤8)
  (hd:ACalls Tryz.prog 147 [.ptr 0 0] (swH w k t i) (onep (fltA e) (swH w1 k t1 i))) :
  ACalls Tryz.prog 146 [.ptr 0 0,.fn (.func 147) [.ptr 0 0] []] (swH w k t i) (one (.tup []) (swH (setT w k (fltT t e)) k (fltT t e) i)):=by
 have hcl:=clo_pan w w1 k t t1 i e hk hl
 unfold tryH at hcl
 unfold swH at *
 generalize hc0:swC w k t i=c0 at *
 generalize hc1:swC w1 k t1 i=c1 at *
 generalize hc2:swC (setT w k (fltT t e)) k (fltT t e) i=c2 at *
 unfold swC at hc0 hc1 hc2
 subst hc0 hc1 hc2
 refine acalls_try Tryz.func146 rfl (by kernel_rfl) Tryz.ntmps146 rfl rfl (fun w0 β0 ext hβ=>?_)
 repeat (first|refine jS ?_|refine jD ?_|refine jB ?_)
 refine jonly ?_
 repeat (first|refine jS ?_|refine jD ?_|refine jB ?_)
 refine jonly ?_
 repeat (first|refine jS ?_|refine jD ?_|refine jB ?_)
 refine jonly ⟨188,[],[.ptr 2 0,.ptr 1 0],rfl,⟨_,Tryz.func188,by kernel_rfl,by kernel_rfl⟩,fun w2 β2 d=>?_⟩
 repeat (first|refine jS ?_|refine jD ?_|refine jB ?_)
 refine jbp [0] hd rfl rfl rfl ⟨rfl,rfl,rfl,rfl,rfl,rfl⟩ rfl rfl rfl ?_
 exact ⟨_,_,[],true,hcl,rfl,rfl,rfl,rfl⟩
def tryH4 (a b:List AVal) (e:Int):List AObj:=[.box 233 a,.box 34 [iv e],.box 228 [.ptr 0 0],.box 233 b]
theorem clo_pan4 (w w1:Wd) (k:Nat) (t t1:Thr) (i:Ins) (e:Int) (hk:k < w.thr.length) (hl:w.thr.length≤8) :
  ADCalls Tryz.prog 188 [.ptr 3 0,.ptr 2 0] (tryH4 (swC w1 k t1 i) (swC w k t i) e) (some (fltA e)) (tryH4 (swC (setT w k (fltT t e)) k (fltT t e) i) (swC w k t i) e):=by
 have hp:=put_ok w k (fltT t e) i hk hl
 unfold swH at hp
 unfold tryH4
 unfold swC fltT setT at *
 simp only at *
 refine adcalls_intro Tryz.func188 rfl (by kernel_rfl) Tryz.ntmps188 rfl rfl rfl rfl (fun w0 β0 ext hβ=>?_)
 have hns:∀ ms,ty279.d ≠ .interface ms:=by intro ms h;cases h
 unfold rvOf fltA
 simp only
 repeat (first|refine jS ?_|refine jB ?_|refine jo rfl rfl (ne_ifc rfl rfl rfl) rfl rfl ?_|refine jo rfl rfl (ta_ok rfl rfl hns) rfl rfl ?_)
 refine jmid [1] [.ptr 2 0] (tryH4 (swC w k (fltT t e) i) (swC w k t i) e++[.box 279 [iv e]]) ?_ ?_
 ·refine jorders (Ls:=[[0,1,2,3,4,5,6,7,8,9,10,11],[0,1,2,4,3,5,6,7,8,9,10,11],[0,1,2,4,5,3,6,7,8,9,10,11],[0,1,2,4,5,6,3,7,8,9,10,11],[0,1,2,4,5,6,7,3,8,9,10,11],[0,1,4,2,3,5,6,7,8,9,10,11],[0,1,4,2,5,3,6,7,8,9,10,11],[0,1,4,2,5,6,3,7,8,9,10,11],[0,1,4,2,5,6,7,3,8,9,10,11],[0,1,4,5,2,3,6,7,8,9,10,11],[0,1,4,5,2,6,3,7,8,9,10,11],[0,1,4,5,2,6,7,3,8,9,10,11],[0,1,4,5,6,2,3,7,8,9,10,11],[0,1,4,5,6,2,7,3,8,9,10,11],[0,1,4,5,6,7,2,3,8,9,10,11],[0,2,1,3,4,5,6,7,8,9,10,11],[0,2,1,4,3,5,6,7,8,9,10,11],[0,2,1,4,5,3,6,7,8,9,10,11],[0,2,1,4,5,6,3,7,8,9,10,11],[0,2,1,4,5,6,7,3,8,9,10,11],[0,2,3,1,4,5,6,7,8,9,10,11],[1,0,2,3,4,5,6,7,8,9,10,11],[1,0,2,4,3,5,6,7,8,9,10,11],[1,0,2,4,5,3,6,7,8,9,10,11],[1,0,2,4,5,6,3,7,8,9,10,11],[1,0,2,4,5,6,7,3,8,9,10,11],[1,0,4,2,3,5,6,7,8,9,10,11],[1,0,4,2,5,3,6,7,8,9,10,11],[1,0,4,2,5,6,3,7,8,9,10,11],[1,0,4,2,5,6,7,3,8,9,10,11],[1,0,4,5,2,3,6,7,8,9,10,11],[1,0,4,5,2,6,3,7,8,9,10,11],[1,0,4,5,2,6,7,3,8,9,10,11],[1,0,4,5,6,2,3,7,8,9,10,11],[1,0,4,5,6,2,7,3,8,9,10,11],[1,0,4,5,6,7,2,3,8,9,10,11],[1,2,0,3,4,5,6,7,8,9,10,11],[1,2,0,4,3,5,6,7,8,9,10,11],[1,2,0,4,5,3,6,7,8,9,10,11],[1,2,0,4,5,6,3,7,8,9,10,11],[1,2,0,4,5,6,7,3,8,9,10,11],[1,2,3,0,4,5,6,7,8,9,10,11],[2,0,1,3,4,5,6,7,8,9,10,11],[2,0,1,4,3,5,6,7,8,9,10,11],[2,0,1,4,5,3,6,7,8,9,10,11],[2,0,1,4,5,6,3,7,8,9,10,11],[2,0,1,4,5,6,7,3,8,9,10,11],[2,0,3,1,4,5,6,7,8,9,10,11],[2,1,0,3,4,5,6,7,8,9,10,11],[2,1,0,4,3,5,6,7,8,9,10,11],[2,1,0,4,5,3,6,7,8,9,10,11],[2,1,0,4,5,6,3,7,8,9,10,11],[2,1,0,4,5,6,7,3,8,9,10,11],[2,1,3,0,4,5,6,7,8,9,10,11],[2,3,0,1,4,5,6,7,8,9,10,11],[2,3,1,0,4,5,6,7,8,9,10,11]]) (by kernel_rfl) ?_
  repeat' (first|exact List.forall_mem_nil _|refine List.forall_mem_cons.2 ⟨?_,?_⟩)
  all_goals (
   repeat (first|refine jS ?_|refine jD ?_|refine jB ?_)
  )
  all_goals exact jmeet rfl rfl
 ·unfold tryH4 swC fltT
  repeat (first|refine jS ?_|refine jD ?_|refine jB ?_)
  refine jBb [0] hp ?_
  repeat (first|refine jS ?_|refine jD ?_|refine jB ?_)
  exact jend [] false rfl rfl rfl ⟨rfl,rfl⟩
theorem fl1_pan (e:Int) (he:e≠0):ACalls Tryz.prog 150 [.ptr 0 0] [.box 34 [iv e]] (onep (fltA e) [.box 34 [iv e]]):=by
 have h:=must_pan e he
 refine jC Tryz.func150 Tryz.ntmps150 (fun w0 β0 ext hβ=>?_)
 repeat (first|refine jS ?_|refine jD ?_|refine jB ?_)
 refine jbp [] h rfl rfl rfl ⟨rfl,rfl,rfl,rfl,rfl,rfl⟩ rfl rfl rfl ?_
 exact qpan [] true rfl rfl rfl rfl
theorem try_flt (w:Wd) (k:Nat) (t:Thr) (i:Ins) (e:Int) (hk:k < w.thr.length) (hl:w.thr.length≤8) (he:e≠0) :
  ACalls Tryz.prog 146 [.ptr 0 0,.fn (.func 150) [] [.ptr 1 0]] (swH w k t i++[.box 34 [iv e]]) (one (.tup []) (swH (setT w k (fltT t e)) k (fltT t e) i++[.box 34 [iv e]])):=by
 have hcl:=clo_pan4 w w k t t i e hk hl
 have hd:=fl1_pan e he
 unfold tryH4 at hcl
 unfold swH at *
 generalize hc0:swC w k t i=c0 at *
 generalize hc2:swC (setT w k (fltT t e)) k (fltT t e) i=c2 at *
 unfold swC at hc0 hc2
 subst hc0 hc2
 refine acalls_try Tryz.func146 rfl (by kernel_rfl) Tryz.ntmps146 rfl rfl (fun w0 β0 ext hβ=>?_)
 repeat (first|refine jS ?_|refine jD ?_|refine jB ?_)
 refine jonly ?_
 repeat (first|refine jS ?_|refine jD ?_|refine jB ?_)
 refine jonly ?_
 repeat (first|refine jS ?_|refine jD ?_|refine jB ?_)
 refine jonly ⟨188,[],[.ptr 3 0,.ptr 2 0],rfl,⟨_,Tryz.func188,by kernel_rfl,by kernel_rfl⟩,fun w2 β2 d=>?_⟩
 repeat (first|refine jS ?_|refine jD ?_|refine jB ?_)
 refine jbp [1] hd rfl rfl rfl ⟨rfl,rfl,rfl,rfl,rfl,rfl⟩ rfl rfl rfl ?_
 exact ⟨_,_,[],true,hcl,rfl,rfl,rfl,rfl⟩
end Go.AL
end
section
set_option maxRecDepth 100000
namespace Go.AL
open Go Go.Proofs
attribute [local irreducible] J
theorem DoR.of {w:Wd} {k:Nat} (h:WdR w) (hk:k < w.thr.length):DoR w k (thrAt w k):=by
 have hm:thrAt w k∈w.thr:=by rw [thrAt_at hk];exact at_mem hk
 obtain ⟨h1,h2⟩:=h.thr _ hm
 have h3:=thRight_len h1
 exact ⟨h.tso,by rw [←h.len];exact hk,h3.1,h3.2,thRight_pc h1⟩
theorem inT_nat {w:Wd} {k:Int} (h:inT w k=true):∃ q:Nat,k=q∧q < w.thr.length:=by
 have:=inn_iff.1 h
 exact ⟨k.toNat,by omega,by omega⟩
theorem insR_op23 {w:Wd} {k:Nat} (h:WdR w) (hk:k < w.thr.length):InsR (instrAt w (thrAt w k)):=insR_at h (DoR.of h hk).pc.1
theorem can_ok (w:Wd) (k:Nat) (h:WdR w) (hk:k < w.thr.length) :
  ACalls Tryz.prog 145 [.ptr 0 0] (swH w k (thrAt w k) (instrAt w (thrAt w k))) (one (bv (canW w k)) (swH w k (thrAt w k) (instrAt w (thrAt w k)))):=by
 have hd:=DoR.of h hk
 have hi:=insR_op23 h hk
 exact scan_ok w k _ _ (by rw [←h.len];exact hk) h.tso (by have:=hd.left;omega) (fun h23=>⟨(hi.ab (by omega)).1,(hi.ab (by omega)).2⟩)
theorem cans_ok (w:Wd) (k:Nat) (h:WdR w) (hk:k < w.thr.length):ACalls Tryz.prog 91 [encWd w,iv (k:Int)] [] (one (.tup [bv (canW w k),iv 0]) []):=by
 have h1:=at_ok w k h hk
 have h2:=can_ok w k h hk
 unfold swH swC at h1 h2
 unfold encWd wCells ivs at *
 refine jC Tryz.func91 Tryz.ntmps91 (fun w0 β0 ext hβ=>?_)
 repeat (first|refine jS ?_|refine jD ?_|refine jB ?_)
 refine jBb [] h1 ?_
 repeat (first|refine jS ?_|refine jD ?_|refine jB ?_)
 refine jBb [1] h2 ?_
 repeat (first|refine jS ?_|refine jD ?_|refine jB ?_)
 exact jR
theorem step_out (w:Wd) (k:Int) (h:WdR w) (hk:inT w k=false):ACalls Tryz.prog 93 [encWd w,iv k] [] (one (.tup [encWd wd0,iv 3]) []):=by
 have h1:=at_out w k h hk
 unfold encWd wCells ivs at *
 refine jC Tryz.func93 Tryz.ntmps93 (fun w0 β0 ext hβ=>?_)
 repeat (first|refine jS ?_|refine jD ?_|refine jB ?_|refine jV h1 ?_)
 exact jR
theorem step_cannot (w:Wd) (k:Nat) (h:WdR w) (hk:k < w.thr.length) (hc:canW w k=false):ACalls Tryz.prog 93 [encWd w,iv (k:Int)] [] (one (.tup [encWd wd0,iv 9]) []):=by
 have h1:=at_ok w k h hk
 have h2:=can_ok w k h hk
 rw [hc] at h2
 unfold swH swC at h1 h2
 unfold encWd wCells ivs at *
 refine jC Tryz.func93 Tryz.ntmps93 (fun w0 β0 ext hβ=>?_)
 repeat (first|refine jS ?_|refine jD ?_|refine jB ?_)
 refine jBb [] h1 ?_
 repeat (first|refine jS ?_|refine jD ?_|refine jB ?_)
 refine jBb [2] h2 ?_
 repeat (first|refine jS ?_|refine jD ?_|refine jB ?_)
 exact jR
theorem dstep_ok (w:Wd) (k:Nat) (h:WdR w) (hk:k < w.thr.length) (he:w.evs.length≤1000000) :
  ∃ t',ACalls Tryz.prog 146 [.ptr 0 0,.fn (.func 147) [.ptr 0 0] []] (swH w k (thrAt w k) (instrAt w (thrAt w k))) (one (.tup []) (swH (doW w k) k t' (instrAt w (thrAt w k)))):=by
 have hd:=DoR.of h hk
 have hi:=insR_op23 h hk
 have hl:=h.tso.sz
 have hl8:w.thr.length≤8:=by rw [h.len];omega
 unfold doW doOp
 by_cases e:(doN w k (thrAt w k) (instrAt w (thrAt w k))).2.2=0
 ·have h1:=sdo_ok w k _ _ hd hi he e
  rw [decide_eq_true e]
  have hth:(doN w k (thrAt w k) (instrAt w (thrAt w k))).1.thr=w.thr:=by
   unfold doN
   split<;>try rfl
   cases decide (0 < (thrAt w k).left.length)<;>rfl
  exact ⟨_,try_ok w _ k _ _ _ (by rw [hth];exact hk) (by rw [hth];exact hl8) h1⟩
 ·obtain ⟨t',h1⟩:=sdo_pan w k _ _ hd hi e
  rw [decide_eq_false e]
  exact ⟨_,try_pan w w k _ _ _ _ hk hl8 h1⟩
theorem step_ok (w:Wd) (k:Nat) (h:WdR w) (hk:k < w.thr.length) (hc:canW w k=true) (he:w.evs.length≤1000000):ACalls Tryz.prog 93 [encWd w,iv (k:Int)] [] (one (.tup [encWd (doW w k),iv 0]) []):=by
 have h1:=at_ok w k h hk
 have h2:=can_ok w k h hk
 obtain ⟨t',h3⟩:=dstep_ok w k h hk he
 rw [hc] at h2
 unfold swH swC at h1 h2 h3
 generalize doW w k=w1 at *
 unfold encWd wCells ivs at *
 refine jC Tryz.func93 Tryz.ntmps93 (fun w0 β0 ext hβ=>?_)
 repeat (first|refine jS ?_|refine jD ?_|refine jB ?_)
 refine jBb [] h1 ?_
 repeat (first|refine jS ?_|refine jD ?_|refine jB ?_)
 refine jBb [2] h2 ?_
 repeat (first|refine jS ?_|refine jD ?_|refine jB ?_)
 refine jBb [2] h3 ?_
 repeat (first|refine jS ?_|refine jD ?_|refine jB ?_)
 exact jR
end Go.AL
end
