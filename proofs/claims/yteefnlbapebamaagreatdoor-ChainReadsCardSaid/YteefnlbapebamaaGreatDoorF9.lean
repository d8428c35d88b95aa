/-
  Part 9 of the proof texts: the program logic over the model, then the contracts of the functions that the laws reach. No conditions.
-/
import Derived.Test.YteefnlbapebamaaGreatDoorF8
import Derived.WalkKit
import Derived.LaidEql
import Derived.Stop.Asserts
import Derived.RowKitTokens
set_option linter.unusedVariables false
set_option linter.unusedSimpArgs false
set_option maxHeartbeats 2000000
section
set_option maxRecDepth 100000
namespace Go.AL
open Go Go.Proofs
attribute [local irreducible] J
theorem waned_set (l:List Thr) (k q:Nat) (hq:q < l.length):((l.take q).map (waned k)++l.drop q).set q (waned k (at' l (q:Int)))=(l.take (q+1)).map (waned k)++l.drop (q+1):=by
 rw [at_nat l q hq]
 have e1:l.drop q=l[q]::l.drop (q+1):=List.drop_eq_getElem_cons hq
 rw [e1,List.set_append_right _ _ (by simp;omega)]
 have e2:q-((l.take q).map (waned k)).length=0:=by simp;omega
 rw [e2,List.set_cons_zero,List.take_add_one,List.getElem?_eq_getElem hq]
 rw [List.map_append]
 simp
theorem waned_at (l:List Thr) (k q:Nat) (hq:q < l.length):at' ((l.take q).map (waned k)++l.drop q) (q:Int)=at' l (q:Int):=by
 rw [at_nat _ q (by simp;omega),at_nat l q hq,List.getElem_append_right (by simp;omega)]
 simp only [List.length_map,List.length_take,List.getElem_drop]
 congr 1;omega
theorem waned_len (l:List Thr) (k q:Nat) (hq:q≤l.length):((l.take q).map (waned k)++l.drop q).length=l.length:=by simp;omega
theorem set_self_at {α:Type} [Inhabited α] {l:List α} {q:Nat} {x:α} (h:at' l (q:Int)=x) (hq:q < l.length):l.set q x=l:=by
 rw [at_nat l q hq] at h
 rw [←h];exact List.set_getElem_self _
theorem slz_of {c:Ctx} {xs:List AVal} {u:Value} (h:xs≠[]) (hr:Rel c (.sl xs) u):Rel c (.slz xs) u:=by
 cases xs with
 | nil=>exact absurd rfl h
 | cons x r=>exact sl_slz hr
theorem thr_left (T:Thr) (l:List Int):elemSet (encThr T) 12 [.slz (l.map iv)]=encThr { T with left:=l }:=rfl
def swA (w : Wd) (k : Int) (t : Thr) (i : Ins) (x : AVal) : List AVal :=
  [.sl (w.code.map encIns), .sl (w.tso.mem.words.map iv), .sl (w.tso.mem.tags.map iv), iv w.tso.depth, .sl (w.tso.bufs.map encBuf), x, .sl (w.evs.map encEvt), iv k,
   iv t.pc, iv (g0 t.regs 0), iv (g0 t.regs 1), iv (g0 t.regs 2), iv (g0 t.regs 3), iv (g0 t.regs 4), iv (g0 t.regs 5), iv (g0 t.regs 6), iv (g0 t.regs 7), .sl (t.frames.map encFrm), iv t.state, iv t.fault, .slz (t.left.map iv), iv i.op, iv i.a, iv i.b, iv i.c]
theorem flushed_ok (w:Wd) (k:Nat) (t:Thr) (i:Ins) (h0:w.thr≠[]) (h8:w.thr.length≤8) (hk:k < w.thr.length) (ht:∀ x∈w.thr,(x.left.length=0∨x.left.length=w.thr.length)∧∀ n∈x.left,0≤n∧n≤8) :
  ACalls Tryz.prog 152 [.ptr 0 0] (swH w k t i) (one (.tup []) (swH { w with thr:=w.thr.map (waned k) } k t i)):=by
 have hc:=clone_thr w.thr h0 (by omega)
 unfold swH swC
 refine jC Tryz.func152 Tryz.ntmps152 (fun w0 β0 ext hβ=>?_)
 repeat (first|refine jS ?_|refine jD ?_|refine jB ?_)
 refine jBb [] hc ?_
 repeat (first|refine jS ?_|refine jD ?_|refine jB ?_|refine jo rfl rfl (len_arr rfl rfl rfl rfl) rfl rfl ?_)
 refine jloop 2 (fun q:Nat=>q≤w.thr.length) [0,19,20] (fun q=>[.ptr 0 0,.v (.int .i64 ((w.thr.map encThr).length:Int)),.v (.int .i64 (q:Int))])
  (fun q=>[.box 233 (swA w k t i (.arr 1 1)),.arr 1 43 13 (((w.thr.take q).map (waned k)++w.thr.drop q).map encThr)]) (fun q=>w.thr.length-q) 0 (by show β0.length≤2;rw [hβ];exact Nat.le_of_ble_eq_true rfl) (Nat.zero_le _) rfl ?_ (fun q hq=>?_)
 ·rfl
 unfold swA
 simp only
 repeat (first|refine jS ?_|refine jD ?_|refine jB ?_)
 refine jc rfl rfl rfl (fun h=>?_) (fun h=>?_)
 ·have h:=of_decide_eq_true h
  rw [List.length_map] at h
  have hq2:q < w.thr.length:=by omega
  have hst:=waned_set w.thr k q hq2
  have hat:=waned_at w.thr k q hq2
  have hln:=waned_len w.thr k q hq
  have hidx:IntKind.i64.wrap ((q:Int)+1)=((q+1:Nat):Int):=idx_next hq2 (by omega)
  obtain ⟨ht1,ht2⟩:=ht _ (at_mem hq2)
  have hwn:waned k (at' w.thr (q:Int))=cond (decide (0 < (at' w.thr (q:Int)).left.length)) { at' w.thr (q:Int) with left:=(at' w.thr (q:Int)).left.set k (max (g0 (at' w.thr (q:Int)).left k-1) 0) } (at' w.thr (q:Int)):=rfl
  generalize (w.thr.take q).map (waned k)++w.thr.drop q=L at *
  generalize hL':(w.thr.take (q+1)).map (waned k)++w.thr.drop (q+1)=L' at *
  have hqL:(q:Int) < (L.map encThr).length:=by rw [List.length_map];omega
  have hel:(L.map encThr)[(q:Int).toNat]? = some (encThr (at' w.thr (q:Int))):=by rw [map_at (by omega),hat]
  generalize at' w.thr (q:Int)=T at *
  have hd:decide ((((T.left.map iv).length:Nat):Int) > 0)=decide (0 < T.left.length):=by rw [List.length_map];exact decide_eq_decide.2 (by omega)
  repeat (first|refine jS ?_|refine jD ?_|refine jB ?_|refine jo rfl rfl (index_own rfl rfl rfl rfl rfl rfl (Int.natCast_nonneg q) hqL) rfl rfl ?_|refine jo rfl rfl (field_own rfl rfl rfl rfl rfl rfl (by decide)) rfl rfl ?_|refine jo rfl rfl (load_own rfl rfl hel rfl rfl rfl) rfl rfl ?_)
  rw [hd]
  cases hz:decide (0 < T.left.length) with
  | false =>
   rw [hz] at hwn
   rw [hwn] at hst
   repeat (first|refine jS ?_|refine jD ?_|refine jB ?_)
   have hself:L=L':=by rw [←hst];exact (set_self_at hat (by omega)).symm
   refine jnext (q+1) hq2 (by omega) rfl rfl rfl ?_ ?_
   ·rw [hidx]
   ·rw [hself,hL'];rfl
  | true =>
   rw [hz] at hwn
   rw [hwn] at hst
   have hpos:=of_decide_eq_true hz
   have hkl:k < T.left.length:=by omega
   have hkT:(k:Int) < (T.left.map iv).length:=by rw [List.length_map];omega
   have hTk:(T.left.map iv)[(k:Int).toNat]? = some (iv (g0 T.left k)):=map_at hkl
   have hg0:0≤g0 T.left k∧g0 T.left k≤8:=ht2 _ (by unfold g0;rw [List.getD_eq_getElem?_getD,List.getElem?_eq_getElem hkl];exact List.getElem_mem hkl)
   have hmx:(if (0:Int) > IntKind.i64.wrap (g0 T.left k-1) then (0:Int) else IntKind.i64.wrap (g0 T.left k-1))=max (g0 T.left k-1) 0:=by
    rw [wrap_id (by omega) (by omega)]
    split<;>omega
   have hne:(T.left.set k (max (g0 T.left k-1) 0)).map iv≠[]:=by
    intro e
    have:=congrArg List.length e
    simp at this
    rw [this] at hpos
    simp at hpos
   have hci:=clone_int T.left (by intro e;rw [e] at hpos;simp at hpos) (by omega)
   refine jc rfl rfl rfl (fun _=>?_) (fun hf=>absurd hf (by decide))
   refine jweak 3 (.sl (T.left.map iv)) rfl rfl (fun c u h=>slz_weak h) ?_
   repeat (first|refine jS ?_|refine jD ?_|refine jB ?_)
   refine jBb [] hci ?_
   repeat (first|refine jS ?_|refine jB ?_)
   refine jdrawPT [(0,.p),(1,.p),(2,.p),(3,.p),(4,.r),(5,.p),(6,.p),(7,.p),(8,.p),(9,.r),(10,.s),(11,.s),(12,.p),(13,.p),(14,.s),(15,.m)] rfl (by kernel_rfl) ?_
   repeat (first|refine jS ?_|refine jD ?_|refine jB ?_|refine jo rfl rfl (index_own rfl rfl rfl rfl rfl rfl (Int.natCast_nonneg k) hkT) rfl rfl ?_|refine jo rfl rfl (load_own rfl rfl hTk rfl rfl rfl) rfl rfl ?_)
   refine jo rfl rfl (store_enc (enc:=iv) (l:=T.left) (l':=T.left.set k (max (g0 T.left k-1) 0)) rfl rfl rfl hTk rfl rfl rfl rfl rfl (Nat.le_of_ble_eq_true rfl) (.inr ⟨rfl,rfl⟩) (by rw [hmx];exact put_at (enc:=iv) rfl) rfl) rfl rfl ?_
   refine jS ?_;refine jS ?_
   refine jpub 3 rfl rfl rfl rfl ?_
   refine jweak 3 (.slz ((T.left.set k (max (g0 T.left k-1) 0)).map iv)) rfl rfl (fun c u h=>slz_of hne h) ?_
   repeat (first|refine jS ?_|refine jD ?_|refine jB ?_|refine jo rfl rfl (index_own rfl rfl rfl rfl rfl rfl (Int.natCast_nonneg q) hqL) rfl rfl ?_|refine jo rfl rfl (field_own rfl rfl rfl rfl rfl rfl (by decide)) rfl rfl ?_)
   refine jo rfl rfl (store_enc (enc:=encThr) (l:=L) (l':=L') rfl rfl rfl hel rfl rfl rfl rfl rfl (Nat.le_of_ble_eq_true rfl) (.inl ⟨_,rfl⟩) (by rw [Int.toNat_natCast,←hst,List.map_set (l:=L)];exact congrArg _ (thr_left T _)) rfl) rfl rfl ?_
   repeat (first|refine jS ?_|refine jD ?_|refine jB ?_)
   refine jnext (q+1) hq2 (by omega) rfl rfl rfl ?_ ?_
   ·rw [hidx]
   ·rw [hL'];rfl
 ·have h:=of_decide_eq_false h
  rw [List.length_map] at h
  have:q=w.thr.length:=by omega
  subst this
  rw [List.take_length,List.drop_length,List.append_nil]
  repeat (first|refine jS ?_|refine jD ?_|refine jB ?_)
  exact jend [] true rfl rfl rfl ⟨rfl,rfl⟩
end Go.AL
end
section
set_option maxRecDepth 100000
namespace Go.AL
open Go Go.Proofs
attribute [local irreducible] J
theorem thRight_left {t:Thr} (h:thRight t=true):∀ n∈t.left,0≤n∧n≤8:=by
 unfold thRight at h
 simp only [Bool.and_eq_true,List.all_eq_true] at h
 exact fun n hn=>inn_iff.1 (h.2.2.2.2.1 n hn)
theorem flush_out (w:Wd) (k:Int) (h:WdR w) (hk:inT w k=false):ACalls Tryz.prog 94 [encWd w,iv k] [] (one (.tup [encWd wd0,iv 3]) []):=by
 have h1:=at_out w k h hk
 unfold encWd wCells ivs at *
 refine jC Tryz.func94 Tryz.ntmps94 (fun w0 β0 ext hβ=>?_)
 repeat (first|refine jS ?_|refine jD ?_|refine jB ?_|refine jV h1 ?_)
 exact jR
theorem flush_none (w:Wd) (k:Nat) (h:WdR w) (hk:k < w.thr.length) (hb:bufAt w.tso k=[]):ACalls Tryz.prog 94 [encWd w,iv (k:Int)] [] (one (.tup [encWd wd0,iv 8]) []):=by
 have h1:=at_ok w k h hk
 have h2:=pop_none
 have hkb:(k:Int) < w.tso.bufs.length:=by rw [←h.len];omega
 rw [bufAt_at] at hb
 unfold swH swC at h1
 unfold encWd wCells ivs at *
 refine jC Tryz.func94 Tryz.ntmps94 (fun w0 β0 ext hβ=>?_)
 repeat (first|refine jS ?_|refine jD ?_|refine jB ?_)
 refine jBb [] h1 ?_
 repeat (first|refine jS ?_|refine jD ?_|refine jB ?_|refine jI (Int.natCast_nonneg k) hkb ?_)
 rw [hb]
 repeat (first|refine jS ?_|refine jD ?_|refine jB ?_|refine jV h2 ?_)
 exact jR
def popW (w:Wd) (k:Nat) (r:List Wput):Wd:={ w with tso:={ w.tso with bufs:=w.tso.bufs.set k r } }
def memW (w:Wd) (m:Mem):Wd:={ w with tso:={ w.tso with mem:=m } }
def wanW (w:Wd) (k:Nat):Wd:={ w with thr:=w.thr.map (waned k) }
theorem flushD_eq (w:Wd) (k:Nat) (p:Wput) (r:List Wput):flushD w k p r=wanW (cond (decide ((mStore w.tso.mem p.loc p.val).2=0)) (memW (popW w k r) (mStore w.tso.mem p.loc p.val).1)
  (cond (decide ((thrAt w k).state=2)) (popW w k r) (setT (popW w k r) k (fltT (thrAt w k) (mStore w.tso.mem p.loc p.val).2)))) k:=rfl
theorem flush_ok (w:Wd) (k:Nat) (h:WdR w) (hk:k < w.thr.length) {p:Wput} {r:List Wput} (hb:bufAt w.tso k=p::r):ACalls Tryz.prog 94 [encWd w,iv (k:Int)] [] (one (.tup [encWd (flushD w k p r),iv 0]) []):=by
 have h1:=at_ok w k h hk
 have hkb:(k:Int) < w.tso.bufs.length:=by rw [←h.len];omega
 have hbk:=hb
 rw [bufAt_at] at hbk
 have hsz:=h.tso.sz
 have hrl:r.length≤900:=by
  have:=(h.tso.put _ (at_mem (l:=w.tso.bufs) (k:=k) (by omega))).1
  rw [hbk] at this
  simp at this;omega
 have h2:=pop_ok p r hrl
 have h3:=store_ok w.tso.mem p.loc p.val h.tso.mem
 have h4:=clone_buf w.tso.bufs (by intro e;rw [e] at hkb;simp at hkb;omega) (by omega)
 have hl8:w.thr.length≤8:=by rw [h.len];omega
 have hthr:∀ x∈w.thr,(x.left.length=0∨x.left.length=w.thr.length)∧∀ n∈x.left,0≤n∧n≤8:=fun x hx=>⟨(h.thr x hx).2,thRight_left (h.thr x hx).1⟩
 have hne:w.thr≠[]:=by intro e;rw [e] at hk;simp at hk
 have hkt:k < (popW w k r).thr.length:=hk
 have hmem:thrAt w k∈w.thr:=by rw [thrAt_at hk];exact at_mem hk
 rw [flushD_eq]
 generalize hms:mStore w.tso.mem p.loc p.val=ms at *
 obtain ⟨m',e⟩:=ms
 simp only at *
 generalize hth:thrAt w k=T at *
 generalize hin:instrAt w T=I at *
 have h5:=fun hne0=>try_flt (popW w k r) k T I e hk hl8 hne0
 have h6:=flushed_ok (memW (popW w k r) m') k T I hne hl8 hk hthr
 have h7:=flushed_ok (popW w k r) k T I hne hl8 hk hthr
 have h8:=flushed_ok (setT (popW w k r) k (fltT T e)) k (fltT T e) I (by intro e;have:=congrArg List.length e;unfold setT at this;simp at this;exact hne this) (by unfold setT;simp;exact hl8) (by unfold setT;simp;exact hk) (by
  intro x hx
  have hl:(setT (popW w k r) k (fltT T e)).thr.length=w.thr.length:=by unfold setT;simp;rfl
  rw [hl]
  have hx:x∈w.thr.set k (fltT T e):=hx
  rcases List.mem_or_eq_of_mem_set hx with hx|rfl
  ·exact hthr x hx
  ·exact hthr T hmem)
 have hd:(T.state != 2) = !decide (T.state=2):=rfl
 have hd2:(e == 0)=decide (e=0):=rfl
 unfold wanW
 unfold swH swC at *
 unfold encWd wCells ivs at *
 unfold encMem mCells ivs at h3
 unfold popW memW setT fltT at *
 simp only at *
 refine jC Tryz.func94 Tryz.ntmps94 (fun w0 β0 ext hβ=>?_)
 repeat (first|refine jS ?_|refine jD ?_|refine jB ?_)
 refine jBb [] h1 ?_
 repeat (first|refine jS ?_|refine jD ?_|refine jB ?_|refine jI (Int.natCast_nonneg k) hkb ?_)
 rw [hbk]
 repeat (first|refine jS ?_|refine jD ?_|refine jB ?_|refine jV h2 ?_)
 refine jBb [] h4 ?_
 repeat (first|refine jS ?_|refine jD ?_|refine jB ?_)
 refine jo rfl rfl (index_own (xs:=w.tso.bufs.map encBuf) (n:=(k:Int)) rfl rfl rfl rfl rfl rfl (by omega) (by simp;omega)) rfl rfl ?_
 refine jo rfl rfl (store_enc (enc:=encBuf) (l:=w.tso.bufs) (l':=w.tso.bufs.set k r) rfl rfl rfl (map_at (by omega)) rfl rfl rfl rfl rfl (Nat.le_of_ble_eq_true rfl) (.inr ⟨rfl,rfl⟩) (put_at (enc:=encBuf) rfl) rfl) rfl rfl ?_
 refine jS ?_;refine jS ?_
 refine jfin 4 [1,2,4,6,8] true rfl rfl rfl (by show β0.length≤4;rw [hβ];exact Nat.le_of_ble_eq_true rfl) ?_
 repeat (first|refine jS ?_|refine jD ?_|refine jB ?_|refine jV h3 ?_)
 rw [hd2]
 cases he:decide (e=0) with
 | true =>
  repeat (first|refine jS ?_|refine jD ?_|refine jB ?_)
  refine jBb [2] h6 ?_
  repeat (first|refine jS ?_|refine jD ?_|refine jB ?_)
  exact jR
 | false =>
  have he0:=of_decide_eq_false he
  have h5:=h5 he0
  repeat (first|refine jS ?_|refine jD ?_|refine jB ?_)
  rw [hd]
  cases hs:decide (T.state=2) with
  | true =>
   repeat (first|refine jS ?_|refine jD ?_|refine jB ?_)
   refine jBb [2] h7 ?_
   repeat (first|refine jS ?_|refine jD ?_|refine jB ?_)
   exact jR
  | false =>
   repeat (first|refine jS ?_|refine jD ?_|refine jB ?_)
   refine jBb [2,5] h5 ?_
   repeat (first|refine jS ?_|refine jD ?_|refine jB ?_)
   refine jBb [2] h8 ?_
   repeat (first|refine jS ?_|refine jD ?_|refine jB ?_)
   exact jR
end Go.AL
end
section
namespace Go.AL
open Go Go.Proofs
structure ThR (t:Thr):Prop where
 pc:0≤t.pc∧t.pc≤1000
 fr:t.frames.length≤6
 ll:t.left.length≤8
 back:∀ f∈t.frames,0≤f.back∧f.back≤1000
 left:∀ n∈t.left,0≤n∧n≤8
 st:((t.state=0∨t.state=1)∧t.fault=0)∨(t.state=2∧1≤t.fault∧t.fault≤16)
theorem thRight_iff {t:Thr}:thRight t=true↔ThR t:=by
 have e:(cond (decide (t.state=0)||decide (t.state=1)) (decide (t.fault=0)) (cond (decide (t.state=2)) (inn t.fault 1 16) false))=true↔((t.state=0∨t.state=1)∧t.fault=0)∨(t.state=2∧1≤t.fault∧t.fault≤16):=by
  by_cases h0:t.state=0
  ·simp [h0]
  ·by_cases h1:t.state=1
   ·simp [h1]
   ·by_cases h2:t.state=2
    ·simp [h2,inn_iff]
    ·simp [h0,h1,h2]
 unfold thRight
 simp only [Bool.and_eq_true,inn_iff,decide_eq_true_eq,List.all_eq_true,e]
 constructor
 ·rintro ⟨a,b,c,d,f,g⟩;exact ⟨a,b,c,d,f,g⟩
 ·rintro ⟨a,b,c,d,f,g⟩;exact ⟨a,b,c,d,f,g⟩
theorem mUse_ok {m:Mem} {k:Int} (h:mUse m k=0):(0≤k∧k < m.words.length)∧g0 m.tags k.toNat=1:=by
 unfold mUse at h
 cases hi:inn k 0 (m.words.length-1) with
 | false=>rw [hi] at h;cases h
 | true =>
  have h2:=inn_iff.1 hi
  rw [hi] at h
  refine ⟨by omega,?_⟩
  simp only [cond_true,why] at h
  by_cases h0:g0 m.tags k.toNat=0
  ·rw [decide_eq_true h0] at h;cases h
  ·rw [decide_eq_false h0] at h
   by_cases h1:g0 m.tags k.toNat=1
   ·exact h1
   ·rw [decide_eq_false h1] at h;cases h
theorem rng_c {x:Int} (c:Int) (h:x=c) (h1:(1≤c∧c≤16)):1≤x∧x≤16:=by rw [h];exact h1
theorem mUse_rng (m:Mem) (k:Int):mUse m k=0∨(1≤mUse m k∧mUse m k≤16):=by
 unfold mUse
 cases inn k 0 (m.words.length-1) with
 | false=>exact .inr (rng_c 3 rfl (by decide))
 | true =>
  simp only [cond_true,why]
  cases decide (g0 m.tags k.toNat=0) with
  | true=>exact .inr (rng_c 4 rfl (by decide))
  | false=>cases decide (g0 m.tags k.toNat=1) with
   | true=>exact .inl rfl
   | false=>exact .inr (rng_c 5 rfl (by decide))
theorem mLoad_two (m:Mem) (k:Int):(mLoad m k).2=mUse m k:=by
 unfold mLoad
 by_cases h:mUse m k=0
 ·rw [decide_eq_true h];simp [h]
 ·rw [decide_eq_false h];simp
theorem mStore_two (m:Mem) (k v:Int):(mStore m k v).2=mUse m k:=by
 unfold mStore
 by_cases h:mUse m k=0
 ·rw [decide_eq_true h];simp [h]
 ·rw [decide_eq_false h];simp
theorem mStore_one {m:Mem} {k v:Int} (h:mUse m k=0):(mStore m k v).1=⟨m.words.set k.toNat v,m.tags⟩:=by
 unfold mStore;rw [decide_eq_true h];rfl
theorem at_g0 (l:List Int) (q:Nat):at' l (q:Int)=g0 l q:=rfl
theorem mStore_right {m:Mem} {k v:Int} (hr:mRight m=true) (h:mUse m k=0):mRight (mStore m k v).1=true∧(mStore m k v).1.words.length=m.words.length:=by
 obtain ⟨h1,h2⟩:=mUse_ok h
 obtain ⟨r1,r2,r3,r4⟩:=(mRight_iff m).1 hr
 rw [mStore_one h]
 refine ⟨(mRight_iff _).2 ⟨by simpa using r1,by simpa using r2,by simpa using r3,fun q hq=>?_⟩,by simp⟩
 by_cases e:q=k.toNat
 ·subst e
  rw [at_g0,h2]
  rfl
 ·have:=r4 q hq
  rw [at_g0,at_g0] at *
  have e2:g0 (m.words.set k.toNat v) q=g0 m.words q:=by
   unfold g0
   simp only [List.getD_eq_getElem?_getD]
   rw [List.getElem?_set_ne (by omega)]
  show tagOk (g0 m.tags q) (g0 (m.words.set k.toNat v) q)=true
  rw [e2];exact this
theorem mkBad_rng (tags:List Int) (k:Nat) (tag:Int):∀ n,mkBad tags k tag n=0∨(1≤mkBad tags k tag n∧mkBad tags k tag n≤16)
 | 0=>.inl rfl
 | n+1=>by
  unfold mkBad
  cases decide (mkBad tags k tag n=0) with
  | false=>exact mkBad_rng tags k tag n
  | true =>
   simp only [cond_true,mkE,why]
   cases decide (tag=1)<;>cases decide (g0 tags (k+n)=0)<;>cases decide (g0 tags (k+n)=1)<;>simp
theorem mMark_rng (m:Mem) (k n tag:Int):(mMark m k n tag).2=0∨(1≤(mMark m k n tag).2∧(mMark m k n tag).2≤16):=by
 unfold mMark
 cases (decide (1≤n)&&(inn k 0 (m.words.length-1)&&decide (n≤m.words.length-k))) with
 | false=>exact .inr (by simp)
 | true =>
  have:=mkBad_rng m.tags k.toNat tag n.toNat
  cases decide (mkBad m.tags k.toNat tag n.toNat=0) with
  | true=>exact .inl rfl
  | false=>exact this
theorem mkTags_all {tags:List Int} {k n:Nat} {tag:Int} (h:k+n≤tags.length) (q:Nat):g0 (mkTags tags k n tag) q=g0 tags q∨g0 (mkTags tags k n tag) q=tag:=by
 unfold mkTags g0
 simp only [List.getD_eq_getElem?_getD]
 by_cases h1:q < k
 ·left
  rw [List.append_assoc,List.getElem?_append_left (by simp;omega),List.getElem?_take_of_lt h1]
 ·by_cases h2:q < k+n
  ·right
   rw [List.getElem?_append_left (by simp;omega),List.getElem?_append_right (by simp;omega),List.getElem?_replicate,if_pos (by simp;omega)]
   rfl
  ·left
   rw [List.getElem?_append_right (by simp;omega),List.getElem?_drop]
   congr 2
   simp;omega
theorem mMark_right {m:Mem} {k n tag:Int} (hr:mRight m=true) (ht:tag=1∨tag=2) (h:(mMark m k n tag).2=0):mRight (mMark m k n tag).1=true∧(mMark m k n tag).1.words.length=m.words.length:=by
 obtain ⟨r1,r2,r3,r4⟩:=(mRight_iff m).1 hr
 unfold mMark at *
 cases hc:(decide (1≤n)&&(inn k 0 (m.words.length-1)&&decide (n≤m.words.length-k))) with
 | false=>rw [hc] at h;cases h
 | true =>
  rw [hc] at h
  simp only [Bool.and_eq_true,decide_eq_true_eq,inn_iff] at hc
  cases hb:decide (mkBad m.tags k.toNat tag n.toNat=0) with
  | false =>
   rw [hb] at h
   exact absurd h (of_decide_eq_false hb)
  | true =>
   have hle:k.toNat+n.toNat≤m.tags.length:=by omega
   refine ⟨(mRight_iff _).2 ⟨r1,r2,by rw [cond_true,cond_true];show (mkTags _ _ _ _).length=_;rw [mkTags_len hle];exact r3,fun q hq=>?_⟩,rfl⟩
   have hq:q < m.tags.length:=by rw [cond_true,cond_true] at hq;have:q < (mkTags m.tags k.toNat n.toNat tag).length:=hq;rwa [mkTags_len hle] at this
   have:=r4 q hq
   show tagOk (g0 (mkTags m.tags k.toNat n.toNat tag) q) (g0 m.words q)=true
   rcases mkTags_all hle q with e|e
   ·rw [e];exact this
   ·rw [e]
    rcases ht with rfl|rfl<;>simp [tagOk]
theorem TsR.mem_set {t:Tso} {m:Mem} (h:TsR t) (hm:mRight m=true) (hl:m.words.length=t.mem.words.length):TsR { t with mem:=m } :=
 ⟨hm,h.sz,fun b hb=>by rw [show ({ t with mem:=m }:Tso).mem.words.length=t.mem.words.length from hl];exact h.put b hb⟩
theorem tsLoad_rng (t:Tso) (k:Nat) (a:Int):(tsLoad t k a).2=0∨(1≤(tsLoad t k a).2∧(tsLoad t k a).2≤16):=by
 unfold tsLoad
 cases hd:decide ((mLoad t.mem a).2=0) with
 | true=>exact .inl rfl
 | false=>rw [mLoad_two];exact mUse_rng _ _
theorem tsStore_rng (t:Tso) (k:Nat) (a v:Int):(tsStore t k a v).2=0∨(1≤(tsStore t k a v).2∧(tsStore t k a v).2≤16):=by
 unfold tsStore
 cases hd:decide ((mStore t.mem a v).2=0) with
 | false=>rw [mStore_two];exact mUse_rng _ _
 | true =>
  cases decide (t.depth=0) with
  | true=>exact .inl rfl
  | false=>cases decide ((bufAt t k).length=t.depth) with
   | true=>exact .inr (rng_c 7 rfl (by decide))
   | false=>exact .inl rfl
theorem tsLocked_rng (t:Tso) (k:Nat) (kd a x y:Int):(tsLocked t k kd a x y).2.2=0∨(1≤(tsLocked t k kd a x y).2.2∧(tsLocked t k kd a x y).2.2≤16):=by
 unfold tsLocked
 cases decide ((bufAt t k).length=0) with
 | false=>exact .inr (rng_c 9 rfl (by decide))
 | true =>
  cases hd:decide ((mLoad t.mem a).2=0) with
  | true=>exact .inl rfl
  | false=>rw [mLoad_two];exact mUse_rng _ _
theorem tsStore_right {t:Tso} {k:Nat} {a v:Int} (h:TsR t) (hk:k < t.bufs.length) (he:(tsStore t k a v).2=0):TsR (tsStore t k a v).1∧(tsStore t k a v).1.bufs.length=t.bufs.length:=by
 unfold tsStore at *
 cases hd:decide ((mStore t.mem a v).2=0) with
 | false=>rw [hd] at he;rw [cond_false] at he;exact absurd he (of_decide_eq_false hd)
 | true =>
  have hu:=of_decide_eq_true hd
  rw [mStore_two] at hu
  obtain ⟨m1,m2⟩:=mStore_right (v:=v) h.mem hu
  rw [hd] at he
  simp only [cond_true] at he ⊢
  cases hz:decide (t.depth=0) with
  | true=>exact ⟨h.mem_set m1 m2,rfl⟩
  | false =>
   rw [hz] at he
   simp only [cond_false] at he ⊢
   cases hf:decide ((bufAt t k).length=t.depth) with
   | true=>rw [hf] at he;cases he
   | false =>
    have hf:=of_decide_eq_false hf
    have hbm:=h.put _ (show bufAt t k∈t.bufs by rw [bufAt_at];exact at_mem hk)
    refine ⟨⟨h.mem,by simpa using h.sz,fun b hb=>?_⟩,by simp⟩
    rcases List.mem_or_eq_of_mem_set hb with hb|rfl
    ·exact h.put b hb
    ·refine ⟨by simp only [List.length_append,List.length_cons,List.length_nil];have:=hbm.1;show (((bufAt t k).length+1:Nat):Int)≤t.depth;omega,fun p hp=>?_⟩
     rcases List.mem_append.1 hp with hp|hp
     ·exact hbm.2 p hp
     ·simp at hp
      subst hp
      have:=(mUse_ok hu).1
      exact this
theorem tsLocked_right {t:Tso} {k:Nat} {kd a x y:Int} (h:TsR t) (he:(tsLocked t k kd a x y).2.2=0):TsR (tsLocked t k kd a x y).1∧(tsLocked t k kd a x y).1.bufs.length=t.bufs.length:=by
 unfold tsLocked at *
 cases hb:decide ((bufAt t k).length=0) with
 | false=>rw [hb] at he;cases he
 | true =>
  rw [hb] at he
  cases hd:decide ((mLoad t.mem a).2=0) with
  | false=>rw [hd] at he;exact absurd he (of_decide_eq_false hd)
  | true =>
   have hu:=of_decide_eq_true hd
   rw [mLoad_two] at hu
   obtain ⟨m1,m2⟩:=mStore_right (v:=become kd (mLoad t.mem a).1 x y) h.mem hu
   exact ⟨h.mem_set m1 m2,rfl⟩
theorem setR_thR {t:Thr} (k v:Int) (h:ThR t):ThR (setR t k v):=⟨h.pc,h.fr,h.ll,h.back,h.left,h.st⟩
theorem pc_thR {t:Thr} {p:Int} (h:ThR t) (hp:0≤p∧p≤1000):ThR { t with pc:=p }:=⟨hp,h.fr,h.ll,h.back,h.left,h.st⟩
theorem frCall_rng (t:Thr) (to:Int):(frCall t to).2=0∨(1≤(frCall t to).2∧(frCall t to).2≤16):=by
 unfold frCall
 cases (!thRight t||(decide (t.pc=1000) || !inn to 0 1000)) with
 | true=>exact .inr (rng_c 1 rfl (by decide))
 | false=>cases decide (t.frames.length=6) with
  | true=>exact .inr (rng_c 13 rfl (by decide))
  | false=>exact .inl rfl
theorem frBack_rng (t:Thr):(frBack t).2=0∨(1≤(frBack t).2∧(frBack t).2≤16):=by
 unfold frBack
 cases (!thRight t) with
 | true=>exact .inr (rng_c 1 rfl (by decide))
 | false=>cases t.frames.getLast? with
  | none=>exact .inr (rng_c 8 rfl (by decide))
  | some f=>exact .inl rfl
theorem frCall_thR {t:Thr} {to:Int} (h:ThR t) (he:(frCall t to).2=0):ThR (frCall t to).1∧(frCall t to).1.left=t.left:=by
 unfold frCall at *
 cases hb:(!thRight t||(decide (t.pc=1000) || !inn to 0 1000)) with
 | true=>rw [hb] at he;cases he
 | false =>
  rw [hb] at he
  simp only [Bool.or_eq_false_iff,Bool.not_eq_false',decide_eq_false_iff_not,inn_iff] at hb
  cases h6:decide (t.frames.length=6) with
  | true=>rw [h6] at he;cases he
  | false =>
   have h6:=of_decide_eq_false h6
   have:=h.fr
   have hpc:=h.pc
   refine ⟨⟨hb.2.2,?_,h.ll,fun f hf=>?_,h.left,h.st⟩,rfl⟩
   ·show (t.frames++[_]).length≤6
    simp only [List.length_append,List.length_cons,List.length_nil];omega
   ·have hf:f∈t.frames++[_]:=hf
    rcases List.mem_append.1 hf with hf|hf
    ·exact h.back f hf
    ·simp at hf;subst hf
     show 0≤t.pc+1∧t.pc+1≤1000
     omega
theorem frBack_thR {t:Thr} (h:ThR t) (he:(frBack t).2=0):ThR (frBack t).1∧(frBack t).1.left=t.left:=by
 unfold frBack at *
 cases hb:(!thRight t) with
 | true=>rw [hb] at he;cases he
 | false =>
  rw [hb] at he
  cases hg:t.frames.getLast? with
  | none=>rw [hg] at he;cases he
  | some f =>
   have hf:f∈t.frames:=List.mem_of_getLast? hg
   refine ⟨⟨h.back f hf,?_,h.ll,fun g hg=>h.back g ((List.dropLast_sublist _).subset hg),h.left,h.st⟩,rfl⟩
   show t.frames.dropLast.length≤6
   rw [List.length_dropLast];have:=h.fr;omega
theorem loApply_rng (k:Int) (i:Ins) (t:Thr):(loApply k i t).2=0∨(1≤(loApply k i t).2∧(loApply k i t).2≤16):=by
 unfold loApply
 cases (decide (loReady t k=1)||decide (t.pc=1000)) with
 | true=>exact .inr (rng_c 1 rfl (by decide))
 | false =>
  cases hr:(!decide (loReady t k=0)) with
  | true =>
   rcases loReady_of t k with e|e|e
   ·rw [e];exact .inr (rng_c 1 rfl (by decide))
   ·rw [e];exact .inr (rng_c 9 rfl (by decide))
   ·rw [e.1] at hr;cases hr
  | false =>
   cases (!inn i.op 1 15) with
   | true=>exact .inr (rng_c 10 rfl (by decide))
   | false=>cases (!loMay i) with
    | true=>exact .inr (rng_c 3 rfl (by decide))
    | false=>cases decide (i.op=13) with
     | true=>exact frCall_rng t i.a
     | false=>cases decide (i.op=14) with
      | true=>exact frBack_rng t
      | false=>exact .inl rfl
theorem loMay_trg {i:Ins} (h:loMay i=true):(i.op=10→0≤i.a∧i.a≤1000)∧((i.op=11∨i.op=12)→0≤i.b∧i.b≤1000):=by
 unfold loMay at h
 rw [Bool.and_eq_true] at h
 have h2:=h.2
 refine ⟨fun e=>?_,fun e=>?_⟩
 ·rw [e] at h2
  have h2:inn i.a 0 1000=true:=h2
  exact inn_iff.1 h2
 ·rcases e with e|e
  all_goals rw [e] at h2
  all_goals (have h2:inn i.b 0 1000=true:=h2)
  all_goals exact inn_iff.1 h2
theorem loDo_thR {k:Int} {i:Ins} {t:Thr} (h:ThR t) (hm:loMay i=true) (hop:inn i.op 1 15=true):ThR (loDo k i t)∧(loDo k i t).left=t.left:=by
 obtain ⟨m1,m2⟩:=loMay_trg hm
 have hop:=inn_iff.1 hop
 unfold loDo
 split
 ·rename_i e
  exact ⟨pc_thR h (m1 (by omega)),rfl⟩
 ·rename_i e
  cases decide (rg t i.a=0) with
  | true=>exact ⟨pc_thR h (m2 (by omega)),rfl⟩
  | false=>exact ⟨h,rfl⟩
 ·rename_i e
  cases decide (rg t i.a=0) with
  | true=>exact ⟨h,rfl⟩
  | false=>exact ⟨pc_thR h (m2 (by omega)),rfl⟩
 ·exact ⟨setR_thR _ _ h,rfl⟩
theorem loApply_thR {k:Int} {i:Ins} {t:Thr} (h:ThR t) (he:(loApply k i t).2=0):ThR (loApply k i t).1∧(loApply k i t).1.left=t.left:=by
 unfold loApply at *
 cases h1:(decide (loReady t k=1)||decide (t.pc=1000)) with
 | true=>rw [h1] at he;cases he
 | false =>
  rw [h1] at he
  simp only [Bool.or_eq_false_iff,decide_eq_false_iff_not] at h1
  cases hr:(!decide (loReady t k=0)) with
  | true =>
   rw [hr] at he
   have he:loReady t k=0:=he
   rw [he] at hr;cases hr
  | false =>
   rw [hr] at he
   cases ho:(!inn i.op 1 15) with
   | true=>rw [ho] at he;cases he
   | false =>
    rw [ho] at he
    cases hm:(!loMay i) with
    | true=>rw [hm] at he;cases he
    | false =>
     rw [hm] at he
     cases h13:decide (i.op=13) with
     | true=>rw [h13] at he;exact frCall_thR h he
     | false =>
      rw [h13] at he
      cases h14:decide (i.op=14) with
      | true=>rw [h14] at he;exact frBack_thR h he
      | false =>
       have hpc:=h.pc
       exact loDo_thR (pc_thR h (show 0≤t.pc+1∧t.pc+1≤1000 by omega)) (by simpa using hm) (by simpa using ho)
theorem doN_rng (w:Wd) (k:Nat) (t:Thr) (i:Ins):(doN w k t i).2.2=0∨(1≤(doN w k t i).2.2∧(doN w k t i).2.2≤16):=by
 unfold doN
 split
 ·exact .inl rfl
 ·exact tsLoad_rng _ _ _
 ·exact tsStore_rng _ _ _ _
 ·exact .inl rfl
 ·exact tsLocked_rng _ _ _ _ _ _
 ·exact tsLocked_rng _ _ _ _ _ _
 ·exact tsLocked_rng _ _ _ _ _ _
 ·cases decide (0 < t.left.length)<;>exact .inl rfl
 ·exact .inl rfl
 ·exact mMark_rng _ _ _ _
 ·exact mMark_rng _ _ _ _
 ·exact .inl rfl
 ·exact .inr (rng_c 3 rfl (by decide))
 ·exact loApply_rng _ _ _
structure Kept (w:Wd) (r:Wd × Thr × Int):Prop where
 code:r.1.code=w.code
 thr:r.1.thr=w.thr
 tso:TsR r.1.tso
 bufs:r.1.tso.bufs.length=w.tso.bufs.length
 evs:r.1.evs.length≤w.evs.length+1
 thR:ThR r.2.1
 left:r.2.1.left.length=0∨r.2.1.left.length=w.tso.bufs.length
theorem doN_kept {w:Wd} {k:Nat} {t:Thr} {i:Ins} (h:TsR w.tso) (hk:k < w.tso.bufs.length) (ht:ThR t) (hl:t.left.length=0∨t.left.length=w.tso.bufs.length) (hpc:i.op.toNat=27∨t.pc < 1000) (h0:t.state=0) (he:(doN w k t i).2.2=0):Kept w (doN w k t i):=by
 have hp:=ht.pc
 have p1:i.op.toNat≠27→ThR (pc1 t):=fun h27=>pc_thR ht (by have:=hpc.resolve_left h27;omega)
 unfold doN at *
 split at he
 ·exact ⟨rfl,rfl,h,rfl,Nat.le_succ _,⟨ht.pc,ht.fr,ht.ll,ht.back,ht.left,.inl ⟨.inr rfl,by
   rcases ht.st with ⟨_,h⟩|⟨h2,h3,h4⟩
   ·exact h
   ·omega⟩⟩,hl⟩
 ·rename_i e;exact ⟨rfl,rfl,h,rfl,Nat.le_succ _,setR_thR _ _ (p1 (by omega)),hl⟩
 ·rename_i e
  obtain ⟨a,b⟩:=tsStore_right h hk he
  exact ⟨rfl,rfl,a,b,Nat.le_succ _,p1 (by omega),hl⟩
 ·rename_i e;exact ⟨rfl,rfl,h,rfl,Nat.le_succ _,p1 (by omega),hl⟩
 ·rename_i e
  obtain ⟨a,b⟩:=tsLocked_right h he
  exact ⟨rfl,rfl,a,b,Nat.le_succ _,setR_thR _ _ (p1 (by omega)),hl⟩
 ·rename_i e
  obtain ⟨a,b⟩:=tsLocked_right h he
  exact ⟨rfl,rfl,a,b,Nat.le_succ _,setR_thR _ _ (p1 (by omega)),hl⟩
 ·rename_i e
  obtain ⟨a,b⟩:=tsLocked_right h he
  exact ⟨rfl,rfl,a,b,Nat.le_succ _,setR_thR _ _ (p1 (by omega)),hl⟩
 ·rename_i e
  cases hz:decide (0 < t.left.length) with
  | true =>
   have q:=p1 (by omega)
   exact ⟨rfl,rfl,h,rfl,Nat.le_succ _,⟨q.pc,q.fr,Nat.zero_le _,q.back,fun n hn=>absurd hn List.not_mem_nil,q.st⟩,.inl rfl⟩
  | false =>
   have hlen:(lens w.tso.bufs).length=w.tso.bufs.length:=by unfold lens;simp
   have hs:=h.sz
   refine ⟨rfl,rfl,h,rfl,Nat.le_succ _,⟨ht.pc,ht.fr,?_,ht.back,fun n hn=>?_,ht.st⟩,.inr hlen⟩
   ·show (lens w.tso.bufs).length≤8
    omega
   ·have hn:n∈lens w.tso.bufs:=hn
    obtain ⟨b,hb,rfl⟩:=List.mem_map.1 hn
    have:=(h.put b hb).1
    omega
 ·rename_i e;exact ⟨rfl,rfl,h,rfl,Nat.le_succ _,p1 (by omega),hl⟩
 ·rename_i e
  obtain ⟨a,b⟩:=mMark_right h.mem (.inl rfl) he
  exact ⟨rfl,rfl,h.mem_set a b,rfl,Nat.le_succ _,p1 (by omega),hl⟩
 ·rename_i e
  obtain ⟨a,b⟩:=mMark_right h.mem (.inr rfl) he
  exact ⟨rfl,rfl,h.mem_set a b,rfl,Nat.le_succ _,p1 (by omega),hl⟩
 ·rename_i e;exact ⟨rfl,rfl,h,rfl,by simp,p1 (by omega),hl⟩
 ·cases he
 ·obtain ⟨a,b⟩:=loApply_thR ht he
  exact ⟨rfl,rfl,h,rfl,Nat.le_succ _,a,by show (loApply k i t).1.left.length=0∨_;rw [b];exact hl⟩
theorem instr_pc {w:Wd} {t:Thr} (hc:w.code.length≤1000):(instrAt w t).op.toNat=27∨t.pc < 1000:=by
 unfold instrAt
 cases hb:decide (t.pc < (w.code.length:Int)) with
 | true=>have:=of_decide_eq_true hb;exact .inr (by omega)
 | false=>exact .inl rfl
theorem setT_right {w:Wd} {k:Nat} {t:Thr} (h:WdR w) (ht:ThR t) (hl:t.left.length=0∨t.left.length=w.thr.length):WdR (setT w k t):=by
 have hlen:(w.thr.set k t).length=w.thr.length:=by simp
 refine ⟨h.code,h.tso,by show (w.thr.set k t).length=_;rw [hlen];exact h.len,fun x hx=>?_⟩
 have hx:x∈w.thr.set k t:=hx
 show _∧(_∨x.left.length=(w.thr.set k t).length)
 rw [hlen]
 rcases List.mem_or_eq_of_mem_set hx with hx|rfl
 ·exact h.thr x hx
 ·exact ⟨thRight_iff.2 ht,hl⟩
theorem fault_right {w:Wd} {k:Nat} {e:Int} (h:WdR w) (hk:k < w.thr.length) (he:1≤e∧e≤16):WdR (faultW w k e):=by
 have hm:=h.thr _ (show thrAt w k∈w.thr by rw [thrAt_at hk];exact at_mem hk)
 have ht:=thRight_iff.1 hm.1
 exact setT_right h ⟨ht.pc,ht.fr,ht.ll,ht.back,ht.left,.inr ⟨rfl,he⟩⟩ hm.2
theorem canW_state {w:Wd} {k:Nat} (h:canW w k=true):(thrAt w k).state=0:=by
 unfold canW at h
 rw [Bool.and_eq_true] at h
 exact of_decide_eq_true h.1
theorem doW_right {w:Wd} {k:Nat} (h:WdR w) (hk:k < w.thr.length) (hc:canW w k=true):WdR (doW w k)∧(doW w k).evs.length≤w.evs.length+1∧(doW w k).thr.length=w.thr.length∧(doW w k).code=w.code:=by
 have hm:=h.thr _ (show thrAt w k∈w.thr by rw [thrAt_at hk];exact at_mem hk)
 have ht:=thRight_iff.1 hm.1
 unfold doW doOp
 by_cases e:(doN w k (thrAt w k) (instrAt w (thrAt w k))).2.2=0
 ·have hkp:=doN_kept h.tso (by rw [←h.len];exact hk) ht (by rw [←h.len];exact hm.2) (instr_pc h.cl) (canW_state hc) e
  rw [decide_eq_true e,cond_true]
  generalize doN w k (thrAt w k) (instrAt w (thrAt w k))=r at *
  obtain ⟨w1,t1,e1⟩:=r
  obtain ⟨c1,c2,c3,c4,c5,c6,c7⟩:=hkp
  simp only at *
  have hw1:WdR w1:=⟨by rw [c1];exact h.code,c3,by rw [c2,c4];exact h.len,fun x hx=>by rw [c2] at hx ⊢;exact h.thr x hx⟩
  exact ⟨setT_right hw1 c6 (by rw [c2,h.len];exact c7),c5,by unfold setT;simp [c2],c1⟩
 ·rw [decide_eq_false e,cond_false]
  exact ⟨fault_right h hk ((doN_rng _ _ _ _).resolve_left e),Nat.le_succ _,by unfold faultW setT;simp,rfl⟩
theorem popW_right {w:Wd} {k:Nat} {p:Wput} {r:List Wput} (h:WdR w) (hk:k < w.thr.length) (hb:bufAt w.tso k=p::r):WdR (popW w k r):=by
 have hkb:k < w.tso.bufs.length:=by rw [←h.len];exact hk
 have hp:=h.tso.put _ (show bufAt w.tso k∈w.tso.bufs by rw [bufAt_at];exact at_mem hkb)
 rw [hb] at hp
 refine ⟨h.code,⟨h.tso.mem,by simpa [popW] using h.tso.sz,fun b hbm=>?_⟩,by simpa [popW] using h.len,h.thr⟩
 rcases List.mem_or_eq_of_mem_set hbm with hbm|rfl
 ·exact h.tso.put b hbm
 ·refine ⟨?_,fun q hq=>hp.2 q (List.mem_cons_of_mem _ hq)⟩
  have:=hp.1
  simp only [List.length_cons] at this
  show ((b.length:Nat):Int)≤w.tso.depth
  omega
theorem waned_right {w:Wd} {k:Nat} (h:WdR w):WdR (wanW w k):=by
 refine ⟨h.code,h.tso,by simpa [wanW] using h.len,fun x hx=>?_⟩
 have hx:x∈w.thr.map (waned k):=hx
 obtain ⟨t,ht,rfl⟩:=List.mem_map.1 hx
 obtain ⟨h1,h2⟩:=h.thr t ht
 have hr:=thRight_iff.1 h1
 have hlen:(wanW w k).thr.length=w.thr.length:=by simp [wanW]
 rw [hlen]
 unfold waned
 cases hz:decide (0 < t.left.length) with
 | false=>exact ⟨h1,h2⟩
 | true =>
  refine ⟨thRight_iff.2 ⟨hr.pc,hr.fr,by show (t.left.set _ _).length≤8;rw [List.length_set];exact hr.ll,hr.back,fun n hn=>?_,hr.st⟩,by simpa using h2⟩
  have hn:n∈t.left.set k (max (g0 t.left k-1) 0):=hn
  rcases List.mem_or_eq_of_mem_set hn with hn|rfl
  ·exact hr.left n hn
  ·by_cases hk:k < t.left.length
   ·have:=hr.left (g0 t.left k) (by unfold g0;rw [List.getD_eq_getElem?_getD,List.getElem?_eq_getElem hk];exact List.getElem_mem hk)
    omega
   ·have:g0 t.left k=0:=by unfold g0;rw [List.getD_eq_getElem?_getD,List.getElem?_eq_none (by omega)];rfl
    omega
theorem memW_right {w:Wd} {m:Mem} (h:WdR w) (h1:mRight m=true) (h2:m.words.length=w.tso.mem.words.length):WdR (memW w m):=⟨h.code,h.tso.mem_set h1 h2,h.len,h.thr⟩
theorem flushD_right {w:Wd} {k:Nat} {p:Wput} {r:List Wput} (h:WdR w) (hk:k < w.thr.length) (hb:bufAt w.tso k=p::r):WdR (flushD w k p r)∧(flushD w k p r).evs=w.evs∧(flushD w k p r).thr.length=w.thr.length∧(flushD w k p r).code=w.code:=by
 have hp:=popW_right h hk hb
 rw [flushD_eq]
 cases hd:decide ((mStore w.tso.mem p.loc p.val).2=0) with
 | true =>
  have hu:=of_decide_eq_true hd
  rw [mStore_two] at hu
  obtain ⟨m1,m2⟩:=mStore_right (v:=p.val) h.tso.mem hu
  exact ⟨waned_right (memW_right hp m1 m2),rfl,by simp [wanW,memW,popW],rfl⟩
 | false =>
  have hu:=of_decide_eq_false hd
  rw [mStore_two] at hu
  cases hs:decide ((thrAt w k).state=2) with
  | true=>exact ⟨waned_right hp,rfl,by simp [wanW,popW],rfl⟩
  | false =>
   have:=fault_right (k:=k) (e:=(mStore w.tso.mem p.loc p.val).2) hp hk (by rw [mStore_two];exact (mUse_rng _ _).resolve_left hu)
   exact ⟨waned_right this,rfl,by simp [wanW,popW,setT],rfl⟩
end Go.AL
end
section
set_option maxRecDepth 100000
namespace Go.AL
open Go Go.Proofs
attribute [local irreducible] J
theorem step_all (w:Wd) (k:Int) (h:WdR w) (he:w.evs.length≤1000000):ACalls Tryz.prog 93 [encWd w,iv k] [] (one (.tup [encWd (stepW w k).1,iv (stepW w k).2]) []):=by
 unfold stepW
 rw [wRight_iff.2 h]
 cases hk:inT w k with
 | false=>exact step_out w k h hk
 | true =>
  obtain ⟨q,rfl,hq⟩:=inT_nat hk
  rw [Int.toNat_natCast]
  cases hc:canW w q with
  | false=>exact step_cannot w q h hq hc
  | true=>exact step_ok w q h hq hc he
theorem flush_all (w:Wd) (k:Int) (h:WdR w):ACalls Tryz.prog 94 [encWd w,iv k] [] (one (.tup [encWd (flushW w k).1,iv (flushW w k).2]) []):=by
 unfold flushW
 rw [wRight_iff.2 h]
 cases hk:inT w k with
 | false=>exact flush_out w k h hk
 | true =>
  obtain ⟨q,rfl,hq⟩:=inT_nat hk
  rw [Int.toNat_natCast]
  cases hb:bufAt w.tso q with
  | nil=>exact flush_none w q h hq hb
  | cons p r=>exact flush_ok w q h hq hb
def xC (w:Wd) (n:Nat):List AVal :=
 [.sl (w.code.map encIns),.sl (w.tso.mem.words.map iv),.sl (w.tso.mem.tags.map iv),iv w.tso.depth,.sl (w.tso.bufs.map encBuf),.sl (w.thr.map encThr),.sl (w.evs.map encEvt),iv (n:Int)]
def xH (w:Wd) (n:Nat):List AObj:=[.box 100 (xC w n)]
theorem ok_no (w w1:Wd) (n:Nat) (e:Int) (he:e≠0):ACalls Tryz.prog 92 [.ptr 0 0,encWd w1,iv e] (xH w n) (one (bv false) (xH w n)):=by
 have h:(e != 0)=true:=by rw [bne_iff_ne];exact he
 unfold encWd wCells ivs xH xC
 refine jC Tryz.func92 Tryz.ntmps92 (fun w0 β0 ext hβ=>?_)
 repeat (first|refine jS ?_|refine jD ?_|refine jB ?_)
 rw [h]
 repeat (first|refine jS ?_|refine jD ?_|refine jB ?_)
 exact jR
theorem ok_yes (w w1:Wd) (n:Nat) (hn:n≤1000000000):ACalls Tryz.prog 92 [.ptr 0 0,encWd w1,iv 0] (xH w n) (one (bv true) (xH w1 (n+1))):=by
 have h:IntKind.i64.wrap ((n:Int)+1)=((n+1:Nat):Int):=by rw [wrap_id]<;>omega
 unfold encWd wCells ivs xH xC
 refine jC Tryz.func92 Tryz.ntmps92 (fun w0 β0 ext hβ=>?_)
 repeat (first|refine jS ?_|refine jD ?_|refine jB ?_)
 rw [h]
 repeat (first|refine jS ?_|refine jD ?_|refine jB ?_)
 exact jR
def cntB (n:Nat) (b:Bool):Nat:=cond b (n+1) n
theorem xstep_ok (w:Wd) (n:Nat) (k:Int) (h:WdR w) (he:w.evs.length≤1000000) (hn:n≤1000000000) :
  ACalls Tryz.prog 48 [.ptr 0 0,iv k] (xH w n) (one (bv (actW w ⟨0,k⟩).2) (xH (actW w ⟨0,k⟩).1 (cntB n (actW w ⟨0,k⟩).2))):=by
 have h1:=step_all w k h he
 have ea:actW w ⟨0,k⟩=cond (decide ((stepW w k).2=0)) ((stepW w k).1,true) (w,false):=rfl
 rw [ea]
 generalize stepW w k=r at *
 obtain ⟨w1,e⟩:=r
 simp only at *
 by_cases h0:e=0
 ·subst h0
  have h2:=ok_yes w w1 n hn
  simp only [decide_true,cond_true,cntB]
  unfold encWd wCells ivs xH xC at *
  refine jC Tryz.func48 Tryz.ntmps48 (fun w0 β0 ext hβ=>?_)
  repeat (first|refine jS ?_|refine jD ?_|refine jB ?_|refine jV h1 ?_)
  refine jBb [0] h2 ?_
  repeat (first|refine jS ?_|refine jD ?_|refine jB ?_)
  exact jR
 ·have h2:=ok_no w w1 n e h0
  rw [decide_eq_false h0]
  simp only [cond_false,cntB]
  unfold encWd wCells ivs xH xC at *
  refine jC Tryz.func48 Tryz.ntmps48 (fun w0 β0 ext hβ=>?_)
  repeat (first|refine jS ?_|refine jD ?_|refine jB ?_|refine jV h1 ?_)
  refine jBb [0] h2 ?_
  repeat (first|refine jS ?_|refine jD ?_|refine jB ?_)
  exact jR
theorem xflush_ok (w:Wd) (n:Nat) (k:Int) (h:WdR w) (hn:n≤1000000000) :
  ACalls Tryz.prog 49 [.ptr 0 0,iv k] (xH w n) (one (bv (actW w ⟨1,k⟩).2) (xH (actW w ⟨1,k⟩).1 (cntB n (actW w ⟨1,k⟩).2))):=by
 have h1:=flush_all w k h
 have ea:actW w ⟨1,k⟩=cond (decide ((flushW w k).2=0)) ((flushW w k).1,true) (w,false):=rfl
 rw [ea]
 generalize flushW w k=r at *
 obtain ⟨w1,e⟩:=r
 simp only at *
 by_cases h0:e=0
 ·subst h0
  have h2:=ok_yes w w1 n hn
  simp only [decide_true,cond_true,cntB]
  unfold encWd wCells ivs xH xC at *
  refine jC Tryz.func49 Tryz.ntmps49 (fun w0 β0 ext hβ=>?_)
  repeat (first|refine jS ?_|refine jD ?_|refine jB ?_|refine jV h1 ?_)
  refine jBb [0] h2 ?_
  repeat (first|refine jS ?_|refine jD ?_|refine jB ?_)
  exact jR
 ·have h2:=ok_no w w1 n e h0
  rw [decide_eq_false h0]
  simp only [cond_false,cntB]
  unfold encWd wCells ivs xH xC at *
  refine jC Tryz.func49 Tryz.ntmps49 (fun w0 β0 ext hβ=>?_)
  repeat (first|refine jS ?_|refine jD ?_|refine jB ?_|refine jV h1 ?_)
  refine jBb [0] h2 ?_
  repeat (first|refine jS ?_|refine jD ?_|refine jB ?_)
  exact jR
theorem actW_right {w:Wd} (a:Act) (h:WdR w):WdR (actW w a).1∧(actW w a).1.evs.length≤w.evs.length+1∧(actW w a).1.thr.length=w.thr.length∧(actW w a).1.code=w.code:=by
 unfold actW
 split
 ·unfold stepW
  rw [wRight_iff.2 h]
  cases hk:inT w a.who with
  | false=>exact ⟨h,Nat.le_succ _,rfl,rfl⟩
  | true =>
   obtain ⟨q,e,hq⟩:=inT_nat hk
   rw [e,Int.toNat_natCast]
   cases hc:canW w q with
   | false=>exact ⟨h,Nat.le_succ _,rfl,rfl⟩
   | true=>exact doW_right h hq hc
 ·unfold flushW
  rw [wRight_iff.2 h]
  cases hk:inT w a.who with
  | false=>exact ⟨h,Nat.le_succ _,rfl,rfl⟩
  | true =>
   obtain ⟨q,e,hq⟩:=inT_nat hk
   rw [e,Int.toNat_natCast]
   cases hb:bufAt w.tso q with
   | nil=>exact ⟨h,Nat.le_succ _,rfl,rfl⟩
   | cons p r =>
    obtain ⟨a,b,c⟩:=flushD_right h hq hb
    exact ⟨a,by show (flushD w q p r).evs.length≤_;rw [b];exact Nat.le_succ _,c⟩
 ·exact ⟨h,Nat.le_succ _,rfl,rfl⟩
end Go.AL
end
section
set_option maxRecDepth 100000
namespace Go.AL
open Go Go.Proofs
attribute [local irreducible] J
theorem right_yes (w:Wd) (h:WdR w):ACalls Tryz.prog 46 [encWd w] [] (one (bv true) []):=by
 have:=wd_right w h.size
 rwa [wRight_iff.2 h] at this
def w0C:List AVal:=[.sl [],.sl [],.sl [],iv 0,.sl [],.sl [],.sl []]
end Go.AL
end
section
set_option maxRecDepth 100000
namespace Go.AL
open Go Go.Proofs
attribute [local irreducible] J
theorem idle_iff {w:Wd}:idleW w=true↔∀ k,k < w.tso.bufs.length→(canW w k||decide (0 < (bufAt w.tso k).length))=false:=by
 unfold idleW
 rw [List.all_eq_true]
 constructor
 ·intro h k hk
  have:=h k (List.mem_range.2 hk)
  simp only [Bool.and_eq_true,Bool.not_eq_true',decide_eq_true_eq] at this
  rw [this.1,this.2];rfl
 ·intro h k hk
  have:=h k (List.mem_range.1 hk)
  simp only [Bool.or_eq_false_iff,decide_eq_false_iff_not] at this
  simp only [Bool.and_eq_true,Bool.not_eq_true',decide_eq_true_eq]
  exact ⟨this.1,by omega⟩
theorem sidle_ok (w:Wd) (h:WdR w):ACalls Tryz.prog 47 [encWd w] [] (one (bv (idleW w)) []):=by
 have hb8:=h.tso.sz
 have h1:=fun k (hk:k < w.tso.bufs.length)=>cans_ok w k h (by rw [h.len];exact hk)
 unfold encWd wCells ivs at *
 refine jC Tryz.func47 Tryz.ntmps47 (fun w0 β0 ext hβ=>?_)
 repeat (first|refine jS ?_|refine jD ?_|refine jB ?_)
 refine jloop 1 (fun q:Nat=>q≤w.tso.bufs.length∧∀ k,k < q→(canW w k||decide (0 < (bufAt w.tso k).length))=false) [1,2,9,10,11] (fun q=>[.ptr 0 0,bv false,.sl (w.tso.bufs.map encBuf),.v (.int .i64 ((w.tso.bufs.map encBuf).length:Int)),.v (.int .i64 (q:Int))])
  (fun q=>[.box 33 (wCells w)]) (fun q=>w.tso.bufs.length-q) 0 (by show β0.length≤1;rw [hβ];exact Nat.zero_le _) ⟨Nat.zero_le _,fun k hk=>absurd hk (Nat.not_lt_zero _)⟩ rfl rfl (fun q hq=>?_)
 obtain ⟨hq,hok⟩:=hq
 unfold wCells ivs
 repeat (first|refine jS ?_|refine jD ?_|refine jB ?_)
 refine jc rfl rfl rfl (fun h=>?_) (fun h=>?_)
 ·have h:=of_decide_eq_true h
  rw [List.length_map] at h
  have hq2:q < w.tso.bufs.length:=by omega
  have h1:=h1 q hq2
  have hidx:IntKind.i64.wrap ((q:Int)+1)=((q+1:Nat):Int):=idx_next hq2 (by omega)
  have hnx:(canW w q||decide (0 < (bufAt w.tso q).length))=false→∀ k,k < q+1→(canW w k||decide (0 < (bufAt w.tso k).length))=false:=fun hb k hk=>by
   by_cases e:k=q
   ·subst e;exact hb
   ·exact hok k (by omega)
  have hno:(canW w q||decide (0 < (bufAt w.tso q).length))=true→idleW w=false:=fun hb=>by
   cases hi:idleW w with
   | false=>rfl
   | true=>have:=idle_iff.1 hi q hq2;rw [hb] at this;cases this
  have hd:decide ((((at' w.tso.bufs (q:Int)).map encPut).length:Int) > 0)=decide (0 < (bufAt w.tso q).length):=by rw [List.length_map,bufAt_at];exact decide_eq_decide.2 (by omega)
  generalize canW w q=b at *
  repeat (first|refine jS ?_|refine jD ?_|refine jB ?_|refine jI (Int.natCast_nonneg q) h ?_|refine jV h1 ?_)
  cases b with
  | true =>
   rw [hno rfl]
   repeat (first|refine jS ?_|refine jD ?_|refine jB ?_)
   exact jR
  | false =>
   repeat (first|refine jS ?_|refine jD ?_|refine jB ?_)
   rw [hd]
   cases hb:decide (0 < (bufAt w.tso q).length) with
   | true =>
    rw [hb] at hno
    rw [hno rfl]
    repeat (first|refine jS ?_|refine jD ?_|refine jB ?_)
    exact jR
   | false =>
    rw [hb] at hnx
    repeat (first|refine jS ?_|refine jD ?_|refine jB ?_)
    refine jnext (q+1) ⟨hq2,hnx rfl⟩ (by omega) rfl rfl rfl ?_ rfl
    rw [hidx];rfl
 ·have h:=of_decide_eq_false h
  rw [List.length_map] at h
  rw [idle_iff.2 fun k hk=>hok k (by omega)]
  repeat (first|refine jS ?_|refine jD ?_|refine jB ?_)
  exact jR
def rdP (s:Wd × Nat) (k:Nat):Wd × Nat:=(List.range k).foldl (fun (s:Wd × Nat) (i:Nat)=>((actW (actW s.1 ⟨0,i⟩).1 ⟨1,i⟩).1,cntB (cntB s.2 (actW s.1 ⟨0,i⟩).2) (actW (actW s.1 ⟨0,i⟩).1 ⟨1,i⟩).2)) s
theorem rdP_succ (s:Wd × Nat) (k:Nat):rdP s (k+1)=((actW (actW (rdP s k).1 ⟨0,k⟩).1 ⟨1,k⟩).1,cntB (cntB (rdP s k).2 (actW (rdP s k).1 ⟨0,k⟩).2) (actW (actW (rdP s k).1 ⟨0,k⟩).1 ⟨1,k⟩).2):=by
 unfold rdP
 rw [List.range_succ,List.foldl_append]
 rfl
theorem rdP_round (w:Wd) (n:Nat):(rdP (w,n) w.thr.length).1=roundW w:=by
 unfold rdP roundW
 generalize List.range w.thr.length=l
 generalize hs:(w,n)=s
 have e:w=s.1:=by rw [←hs]
 rw [e]
 clear hs e
 induction l generalizing s with
 | nil=>rfl
 | cons a l ih=>exact ih _
theorem cntB_le (n:Nat) (b:Bool):cntB n b≤n+1:=by cases b<;>simp [cntB]
theorem rdP_right {s:Wd × Nat} (h:WdR s.1):∀ k,WdR (rdP s k).1∧(rdP s k).1.evs.length≤s.1.evs.length+2*k∧(rdP s k).2≤s.2+2*k∧(rdP s k).1.thr.length=s.1.thr.length∧(rdP s k).1.code=s.1.code
 | 0=>⟨h,Nat.le_refl _,Nat.le_refl _,rfl,rfl⟩
 | k+1=>by
  obtain ⟨a1,a2,a3,a4,a5⟩:=rdP_right h k
  rw [rdP_succ]
  generalize rdP s k=r at *
  obtain ⟨b1,b2,b3,b4⟩:=actW_right ⟨0,k⟩ a1
  obtain ⟨c1,c2,c3,c4⟩:=actW_right ⟨1,k⟩ b1
  have d1:=cntB_le r.2 (actW r.1 ⟨0,k⟩).2
  have d2:=cntB_le (cntB r.2 (actW r.1 ⟨0,k⟩).2) (actW (actW r.1 ⟨0,k⟩).1 ⟨1,k⟩).2
  exact ⟨c1,by simp only;omega,by simp only;omega,by rw [c3,b3,a4],by rw [c4,b4,a5]⟩
structure RdI (w:Wd) (m:Nat) (s:Nat × Wd × Nat):Prop where
 le:s.1≤m
 right:WdR s.2.1
 thr:s.2.1.thr.length=w.thr.length
 evs:s.2.1.evs.length≤w.evs.length+16*s.1
 cnt:s.2.2≤16*s.1
 eq:roundsW w m=((roundsW s.2.1 (m-s.1)).1,s.1+(roundsW s.2.1 (m-s.1)).2)
theorem rounds_ok (w:Wd) (m:Nat) (h:WdR w) (he:w.evs.length≤500000) (hm:m≤10000):ACalls Tryz.prog 13 [encWd w,iv (m:Int)] [] (one (.tup [encWd (roundsW w m).1,iv ((roundsW w m).2:Int),iv 0]) []):=by
 have h1:=right_yes w h
 have hb8:=h.tso.sz
 have hl8:w.thr.length≤8:=by rw [h.len];omega
 have e1:decide ((m:Int) < 0)=false:=decide_eq_false (by omega)
 have e2:decide ((m:Int) > 10000)=false:=decide_eq_false (by omega)
 unfold encWd wCells ivs at *
 refine jC Tryz.func13 Tryz.ntmps13 (fun w0 β0 ext hβ=>?_)
 repeat (first|refine jS ?_|refine jD ?_|refine jB ?_|refine jV h1 ?_)
 rw [e1]
 repeat (first|refine jS ?_|refine jD ?_|refine jB ?_)
 rw [e2]
 repeat (first|refine jS ?_|refine jD ?_|refine jB ?_)
 refine jfin 3 [1,2,4,5,6,7,8] true rfl rfl rfl (by show β0.length≤3;rw [hβ];exact Nat.zero_le _) ?_
 refine jloop 3 (RdI w m) [1,2,4,5,6,7,8] (fun s=>[iv (m:Int),.ptr 0 0,.ptr 1 0,iv 0,iv 0,.ptr 2 0,iv (s.1:Int)])
  (fun s=>[.box 33 (wCells w),.box 33 w0C,.box 100 (xC s.2.1 s.2.2)]) (fun s=>m-s.1) (0,w,0) (by show β0.length≤3;rw [hβ];exact Nat.zero_le _)
  ⟨Nat.zero_le _,h,rfl,Nat.le_refl _,Nat.le_refl _,by simp⟩ rfl rfl (fun s hs=>?_)
 obtain ⟨j,x,c⟩:=s
 obtain ⟨i1,i2,i3,i4,i5,i6⟩:=hs
 simp only at i1 i2 i3 i4 i5 i6
 have hid:=sidle_ok x i2
 unfold wCells ivs xC w0C
 simp only
 repeat (first|refine jS ?_|refine jD ?_|refine jB ?_)
 by_cases hj:j < m
 ·rw [show decide ((j:Int) < (m:Int))=true from decide_eq_true (by omega)]
  obtain ⟨m',hm'⟩:∃ m',m-j=m'+1:=⟨m-j-1,by omega⟩
  rw [hm'] at i6
  unfold encWd wCells ivs at hid
  repeat (first|refine jS ?_|refine jD ?_|refine jB ?_|refine jV hid ?_)
  cases hb:idleW x with
  | true =>
   have:roundsW w m=(x,j):=by
    rw [i6,roundsW,hb];rfl
   rw [this]
   repeat (first|refine jS ?_|refine jD ?_|refine jB ?_)
   exact jR
  | false =>
   repeat (first|refine jS ?_|refine jD ?_|refine jB ?_)
   refine jloop 3 (fun q:Nat=>q≤w.thr.length) [1,2,4,5,6,7,8,38,39] (fun q=>[iv (m:Int),.ptr 0 0,.ptr 1 0,iv 0,iv 0,.ptr 2 0,iv (j:Int),.v (.int .i64 ((w.thr.map encThr).length:Int)),.v (.int .i64 (q:Int))])
    (fun q=>[.box 33 (wCells w),.box 33 w0C,.box 100 (xC (rdP (x,c) q).1 (rdP (x,c) q).2)]) (fun q=>w.thr.length-q) 0 (by show β0.length≤3;rw [hβ];exact Nat.zero_le _) (Nat.zero_le _) rfl rfl (fun q hq=>?_)
   obtain ⟨r1,r2,r3,r4,r5⟩:=rdP_right (s:=(x,c)) i2 q
   simp only at r2 r3 r4
   unfold wCells ivs xC w0C
   repeat (first|refine jS ?_|refine jD ?_|refine jB ?_)
   refine jc rfl rfl rfl (fun h=>?_) (fun h=>?_)
   ·have h:=of_decide_eq_true h
    rw [List.length_map] at h
    have hq2:q < w.thr.length:=by omega
    have hsc:=rdP_succ (x,c) q
    have hidx:IntKind.i64.wrap ((q:Int)+1)=((q+1:Nat):Int):=idx_next hq2 (by omega)
    have h3:=xstep_ok (rdP (x,c) q).1 (rdP (x,c) q).2 q r1 (by omega) (by omega)
    have hr:=actW_right (w:=(rdP (x,c) q).1) ⟨0,q⟩ r1
    have hc1:=cntB_le (rdP (x,c) q).2 (actW (rdP (x,c) q).1 ⟨0,q⟩).2
    have h4:=xflush_ok (actW (rdP (x,c) q).1 ⟨0,q⟩).1 (cntB (rdP (x,c) q).2 (actW (rdP (x,c) q).1 ⟨0,q⟩).2) q hr.1 (by omega)
    generalize actW (actW (rdP (x,c) q).1 ⟨0,q⟩).1 ⟨1,q⟩=R2 at *
    generalize hR1:actW (rdP (x,c) q).1 ⟨0,q⟩=R1 at *
    generalize rdP (x,c) q=P at *
    unfold xH xC at h3 h4
    repeat (first|refine jS ?_|refine jD ?_|refine jB ?_)
    refine jBb [2] h3 ?_
    repeat (first|refine jS ?_|refine jD ?_|refine jB ?_)
    refine jBb [2] h4 ?_
    repeat (first|refine jS ?_|refine jD ?_|refine jB ?_)
    refine jnext (q+1) hq2 (by omega) rfl rfl rfl ?_ ?_
    ·rw [hidx];rfl
    ·rw [hsc];rfl
   ·have h:=of_decide_eq_false h
    rw [List.length_map] at h
    have hqe:q=w.thr.length:=by omega
    subst hqe
    have hrd:=rdP_round x c
    rw [i3] at hrd
    have hidx:IntKind.i64.wrap ((j:Int)+1)=((j+1:Nat):Int):=by rw [wrap_id]<;>omega
    repeat (first|refine jS ?_|refine jD ?_|refine jB ?_)
    rw [hidx]
    repeat (first|refine jS ?_|refine jD ?_|refine jB ?_)
    refine jnext (j+1,(rdP (x,c) w.thr.length).1,(rdP (x,c) w.thr.length).2) ⟨by simp only;omega,r1,by simp only;rw [r4,i3],by simp only;omega,by simp only;omega,?_⟩ (by simp only;omega) rfl rfl rfl rfl rfl
    simp only
    rw [i6,roundsW,hb,hrd,show m-(j+1)=m' by omega]
    simp only [cond_false]
    congr 1
    omega
 ·have:j=m:=by omega
  subst this
  rw [show decide ((j:Int) < (j:Int))=false from decide_eq_false (by omega)]
  have:roundsW w j=(x,j):=by
   rw [i6,Nat.sub_self];rfl
  rw [this]
  repeat (first|refine jS ?_|refine jD ?_|refine jB ?_)
  exact jR
end Go.AL
end
section
set_option maxRecDepth 100000
namespace Go.AL
open Go Go.Proofs
theorem thrAt_set (w:Wd) {k:Nat} (t:Thr) (h:k < w.thr.length) (q:Nat):thrAt (setT w k t) q=if q=k then t else thrAt w q:=by
 unfold thrAt setT
 simp only [List.getD_eq_getElem?_getD,List.getElem?_set]
 by_cases e:q=k
 ·subst e;rw [if_pos rfl,if_pos rfl,if_pos h];rfl
 ·rw [if_neg e,if_neg (fun e2=>e e2.symm)]
end Go.AL
end
section
set_option maxRecDepth 100000
namespace Go.AL
open Go Go.Proofs
attribute [local irreducible] J
def thrP (a:Int):Thr:={ thr0 with pc:=a }
def newOk (code:List Ins) (st:List Int) (m:Mem) (d:Int):Wd:=⟨code,⟨m,d,List.replicate st.length []⟩,st.map thrP,[]⟩
def newW (code:List Ins) (st:List Int) (m:Mem) (d:Int):Wd × Int :=
 cond (rightC code&&mRight m) (cond (inn st.length 1 8&&inn d 0 8) (cond (st.all fun a=>inn a 0 code.length) (newOk code st m d,0) (wd0,3)) (wd0,2)) (wd0,1)
theorem thr_weak (a:Int) (c:Ctx) (u:Value) (h:Rel c (.agg [iv a,iv 0,iv 0,iv 0,iv 0,iv 0,iv 0,iv 0,iv 0,.slf [],iv 0,iv 0,.slf []]) u):Rel c (encThr (thrP a)) u:=by
 obtain ⟨cs,e,h⟩:=h
 refine ⟨cs,e,?_⟩
 revert h
 have key:∀ us,RelL c [iv a,iv 0,iv 0,iv 0,iv 0,iv 0,iv 0,iv 0,iv 0,.slf [],iv 0,iv 0,.slf []] us→RelL c [iv a,iv 0,iv 0,iv 0,iv 0,iv 0,iv 0,iv 0,iv 0,.sl [],iv 0,iv 0,.slz []] us:=by
  iterate 9 refine relL_cons (fun u h=>h) ?_
  refine relL_cons (fun u h=>sl_weak h) ?_
  iterate 2 refine relL_cons (fun u h=>h) ?_
  exact relL_cons (fun u h=>slf_slz h) (fun us h=>h)
 exact key _
theorem elemsP (l:List Int):∀ x:Int,(encThr (thrP x)).cells.length=13∧(encThr (thrP x)).flat=true:=fun x=>⟨rfl,rfl⟩
theorem wnew_ok (code:List Ins) (st:List Int) (m:Mem) (d:Int) (hc:code.length≤1000000) (hs:st.length≤1000000) (hm:m.words.length≤1000000∧m.tags.length≤1000000) :
  ACalls Tryz.prog 85 [encIs code,ivs st,encMem m,iv d] [] (one (.tup [encWd (newW code st m d).1,iv (newW code st m d).2]) []):=by
 have h1:=right_ok code hc
 have h2:=mem_right m hm.1 hm.2
 have h3:=tnew_ok m (st.length:Int) d hm
 unfold newW
 cases b1:rightC code with
 | false =>
  rw [b1] at h1
  unfold encIs at h1
  unfold encWd wCells encIs ivs encMem mCells at *
  refine jC Tryz.func85 Tryz.ntmps85 (fun w0 β0 ext hβ=>?_)
  repeat (first|refine jS ?_|refine jD ?_|refine jB ?_|refine jV h1 ?_)
  exact jR
 | true =>
  rw [b1] at h1
  cases b2:mRight m with
  | false =>
   rw [b2] at h2
   unfold encIs at h1
   unfold encWd wCells encIs ivs encMem mCells at *
   unfold ivs at *
   refine jC Tryz.func85 Tryz.ntmps85 (fun w0 β0 ext hβ=>?_)
   repeat (first|refine jS ?_|refine jD ?_|refine jB ?_|refine jV h1 ?_|refine jV h2 ?_)
   exact jR
  | true =>
   rw [b2] at h2 h3
   have hlm:((st.map iv).length:Int)=(st.length:Int):=by rw [List.length_map]
   cases b3:(inn (st.length:Int) 1 8&&inn d 0 8) with
   | false =>
    rw [b3] at h3
    unfold encIs at h1
    unfold encTso tCells at h3
    unfold encWd wCells encIs encMem mCells at *
    unfold ivs at *
    refine jC Tryz.func85 Tryz.ntmps85 (fun w0 β0 ext hβ=>?_)
    repeat (first|refine jS ?_|refine jD ?_|refine jB ?_|refine jV h1 ?_|refine jV h2 ?_)
    rw [hlm]
    repeat (first|refine jS ?_|refine jD ?_|refine jB ?_|refine jV h3 ?_)
    exact jR
   | true =>
    rw [b3] at h3
    simp only [Bool.and_true,cond_true,Int.toNat_natCast] at h3 ⊢
    have b3':=(Bool.and_eq_true _ _ ▸ b3)
    have hs8:=inn_iff.1 b3'.1
    obtain ⟨hz1,hz2⟩:=allAt (l:=st) (p:=fun a=>inn a 0 (code.length:Int))
    unfold encIs at h1
    unfold encTso tCells at h3
    unfold encWd wCells encIs encMem mCells at *
    unfold ivs at *
    refine jC Tryz.func85 Tryz.ntmps85 (fun w0 β0 ext hβ=>?_)
    repeat (first|refine jS ?_|refine jD ?_|refine jB ?_|refine jV h1 ?_|refine jV h2 ?_)
    rw [hlm]
    repeat (first|refine jS ?_|refine jD ?_|refine jB ?_|refine jV h3 ?_)
    refine jadB 3 5 43 13 rfl rfl rfl rfl ?_
    refine jloopI (fun q:Nat=>q≤st.length∧∀ p,p < q→inn (at' st (p:Int)) 0 (code.length:Int)=true) [0,8,9,12,39,40,41] (fun q=>[.sl (code.map encIns),.ptr 1 0,iv 0,.ptr 3 0,.sl (st.map iv),.v (.int .i64 ((st.map iv).length:Int)),.v (.int .i64 (q:Int))])
     (fun q=>[.box 26 [.sl (m.words.map iv),.sl (m.tags.map iv)],.box 33 [.slf [],.slf [],.slf [],iv 0,.slf [],.slf [],.slf []],.box 29 [.sl (m.words.map iv),.sl (m.tags.map iv),iv d,.sl ((List.replicate st.length ([]:List Wput)).map encBuf)],
      .box 33 [.sl (code.map encIns),.sl (m.words.map iv),.sl (m.tags.map iv),iv d,.sl ((List.replicate st.length ([]:List Wput)).map encBuf),.arr 4 (q+1),.slf []],.arr (q+1) 43 13 ((st.take q).map fun a=>encThr (thrP a))]) (fun q=>st.length-q) 0 ⟨Nat.zero_le _,fun p hp=>absurd hp (Nat.not_lt_zero _)⟩ rfl rfl (fun q hq=>?_)
    obtain ⟨hq,hok⟩:=hq
    repeat (first|refine jS ?_|refine jD ?_|refine jB ?_)
    refine jc rfl rfl rfl (fun h=>?_) (fun h=>?_)
    ·have h:=of_decide_eq_true h
     rw [List.length_map] at h
     have hq2:q < st.length:=by omega
     have hidx:IntKind.i64.wrap ((q:Int)+1)=((q+1:Nat):Int):=idx_next hq2 (by omega)
     have htk:(st.take q)++[at' st (q:Int)]=st.take (q+1):=by rw [at_nat st q hq2,List.take_add_one,List.getElem?_eq_getElem hq2];rfl
     have hln:(st.take q).length≤8:=by rw [List.length_take];omega
     have hno:=hz2 q hq2
     have hnx:inn (at' st (q:Int)) 0 (code.length:Int)=true→∀ p,p < q+1→inn (at' st (p:Int)) 0 (code.length:Int)=true:=fun hb p hp=>by
      by_cases e:p=q
      ·subst e;exact hb
      ·exact hok p (by omega)
     repeat (first|refine jS ?_|refine jD ?_|refine jB ?_|refine jI (Int.natCast_nonneg q) h ?_)
     generalize at' st (q:Int)=a at *
     by_cases g1:a < 0
     ·rw [show decide (a < 0)=true from decide_eq_true g1]
      rw [hno (by cases hi:inn a 0 (code.length:Int) with|false=>rfl|true=>have:=inn_iff.1 hi;omega)]
      repeat (first|refine jS ?_|refine jD ?_|refine jB ?_)
      exact jR
     ·rw [show decide (a < 0)=false from decide_eq_false g1]
      repeat (first|refine jS ?_|refine jD ?_|refine jB ?_)
      by_cases g2:a > (code.length:Int)
      ·rw [show decide (a > (((code.map encIns).length:Nat):Int))=true from decide_eq_true (by rw [List.length_map];exact g2)]
       rw [hno (by cases hi:inn a 0 (code.length:Int) with|false=>rfl|true=>have:=inn_iff.1 hi;omega)]
       repeat (first|refine jS ?_|refine jD ?_|refine jB ?_)
       exact jR
      ·rw [show decide (a > (((code.map encIns).length:Nat):Int))=false from decide_eq_false (by rw [List.length_map];exact g2)]
       repeat (first|refine jow rfl rfl (readP_dsem rfl) (thr_weak _) rfl rfl ?_|refine jS ?_|refine jD ?_|refine jB ?_)
       refine jo rfl rfl (append_enc (enc:=fun a=>encThr (thrP a)) (l:=st.take q) a rfl rfl rfl rfl rfl rfl rfl rfl rfl rfl (elemsP []) rfl (by omega) rfl rfl) rfl rfl ?_
       rw [htk]
       repeat (first|refine jS ?_|refine jD ?_|refine jB ?_)
       refine jnextI (q+1) ⟨by omega,hnx (inn_iff.2 ⟨by omega,by omega⟩)⟩ ?_ rfl (by omega)
       show some _=some _
       rw [hidx]
    ·have h:=of_decide_eq_false h
     rw [List.length_map] at h
     have:q=st.length:=by omega
     subst this
     rw [hz1 fun p hp=>hok p (by omega),List.take_length]
     repeat (first|refine jS ?_|refine jD ?_|refine jB ?_)
     have he:(st.map thrP).map encThr=st.map fun a=>encThr (thrP a):=by rw [List.map_map];rfl
     unfold newOk
     simp only [cond_true]
     rw [he]
     rcases (by omega:st.length=1∨st.length=2∨st.length=3∨st.length=4∨st.length=5∨st.length=6∨st.length=7∨st.length=8) with e|e|e|e|e|e|e|e
     all_goals rw [e]
     all_goals exact jR
end Go.AL
end
section
set_option maxRecDepth 100000
namespace Go.AL
open Go Go.Proofs
attribute [local irreducible] J
def stAt (s:Bs) (ls:List Bs):List Int:=ls.map fun l=>(whereP s l).1
theorem stAt_take (s:Bs) (ls:List Bs) {q:Nat} (h:q < ls.length):stAt s (ls.take (q+1))=stAt s (ls.take q)++[(whereP s (at' ls (q:Int))).1]:=by
 unfold stAt
 rw [at_nat ls q h,List.take_add_one,List.getElem?_eq_getElem h,List.map_append]
 rfl
theorem starts_ok (g:Gl) (s:Bs) (ls:List Bs) (hs:s.length≤1000000) (hl:ls.length≤1000) (hall:∀ l∈ls,(whereP s l).2=0) :
  ACalls Tryz.prog 83 [sv s,.sl (ls.map sv)] (gls g) (one (.tup [ivs (stAt s ls),.v .nilIface]) (gls g)):=by
 have hw:=fun w=>where_ok g s w hs
 unfold gls at *
 refine jC Tryz.func83 Tryz.ntmps83 (fun w0 β0 ext hβ=>?_)
 refine jS ?_;refine jS ?_;refine jS ?_
 refine jS ?_;refine jS ?_;refine jS ?_
 refine jS ?_
 refine jS ?_
 repeat (first|refine jad 6 3 1 rfl rfl rfl rfl ?_|refine jS ?_|refine jD ?_|refine jB ?_)
 refine jloopI (ι:=Nat) (fun q=>q≤ls.length) [0,4,5,6,11,12,13] (fun q=>[sv s,.slf [],.v .nilIface,.arr 4 (q+1),.sl (ls.map sv),.v (.int .i64 ((ls.map sv).length:Int)),.v (.int .i64 (q:Int))])
  (fun q=>[g.a,g.b,g.c,g.d,.arr (q+1) 3 1 ((stAt s (ls.take q)).map iv)]) (fun q=>ls.length-q) 0 (Nat.zero_le _) rfl rfl (fun q hq=>?_)
 repeat (first|refine jS ?_|refine jD ?_|refine jB ?_)
 refine jc rfl rfl rfl (fun h=>?_) (fun h=>?_)
 ·have h:=of_decide_eq_true h
  rw [List.length_map] at h
  have hq2:q < ls.length:=by omega
  have hidx:IntKind.i64.wrap ((q:Int)+1)=((q+1:Nat):Int):=idx_next hq2 (by omega)
  have htk:=stAt_take s ls hq2
  have hw:=hw (at' ls (q:Int))
  have h0:=hall _ (at_mem hq2)
  have hln:(stAt s (ls.take q)).length≤1000:=by unfold stAt;rw [List.length_map,List.length_take];omega
  generalize whereP s (at' ls (q:Int))=r at *
  obtain ⟨r1,r2⟩:=r
  simp only at h0 htk
  subst h0
  repeat (first|refine jS ?_|refine jD ?_|refine jB ?_|refine jI (Int.natCast_nonneg q) h ?_)
  refine jBb [0,1,2,3] hw ?_
  repeat (first|refine jS ?_|refine jD ?_|refine jB ?_)
  refine jo rfl rfl (append_enc (enc:=iv) (l:=stAt s (ls.take q)) r1 rfl rfl rfl rfl rfl rfl rfl rfl rfl rfl (fun x=>⟨rfl,rfl⟩) rfl (by omega) rfl rfl) rfl rfl ?_
  rw [←htk]
  repeat (first|refine jS ?_|refine jD ?_|refine jB ?_)
  refine jnextI (q+1) hq2 ?_ rfl (by omega)
  show some _=some _
  rw [hidx]
 ·have h:=of_decide_eq_false h
  rw [List.length_map] at h
  have:q=ls.length:=by omega
  subst this
  rw [List.take_length]
  refine jpub 6 rfl rfl rfl rfl ?_
  repeat (first|refine jS ?_|refine jD ?_|refine jB ?_)
  exact jR
theorem as_nil (ps:List Value):ACalls Tryz.prog 84 [.v .nilIface,.ifc 152 (.ptr 0 0)] [.box 150 [sv []]] (one (bv false) [.box 150 [sv []]]):=by
 refine jC Tryz.func84 Tryz.ntmps84 (fun w0 β0 ext hβ=>?_)
 repeat (first|refine jS ?_|refine jD ?_|refine jB ?_|refine jo rfl rfl (eq_nilI rfl rfl rfl) rfl rfl ?_)
 exact jR
theorem snew_ok (g:Gl) (s:Bs) (ls:List Bs) (m:Mem) (d:Int) (hs:s.length≤100000) (hl:ls.length≤1000) (hm:m.words.length≤1000000∧m.tags.length≤1000000) (hp:(parseP s).2.2=0) (hall:∀ l∈ls,(whereP s l).2=0) (hc:(parseP s).1.length≤1000000) :
  ACalls Tryz.prog 44 [sv s,.sl (ls.map sv),encMem m,iv d] (gls g) (one (.tup [encWd (newW (parseP s).1 (stAt s ls) m d).1,iv (newW (parseP s).1 (stAt s ls) m d).2]) (gls g)):=by
 have h1:=parse_ok g s (by omega)
 have h2:=starts_ok g s ls (by omega) hl hall
 have h3:=as_nil []
 have h4:=wnew_ok (parseP s).1 (stAt s ls) m d hc (by unfold stAt;simp;omega) hm
 rw [hp] at h1
 generalize newW (parseP s).1 (stAt s ls) m d=r at *
 unfold gls encIs at *
 unfold encWd wCells encMem mCells ivs at *
 refine jC Tryz.func44 Tryz.ntmps44 (fun w0 β0 ext hβ=>?_)
 repeat (first|refine jS ?_|refine jD ?_|refine jB ?_)
 refine jBb [0,1,2,3] h1 ?_
 repeat (first|refine jS ?_|refine jD ?_|refine jB ?_)
 refine jBb [0,1,2,3] h2 ?_
 repeat (first|refine jS ?_|refine jD ?_|refine jB ?_)
 refine jBb [6] h3 ?_
 repeat (first|refine jS ?_|refine jD ?_|refine jB ?_|refine jV h4 ?_)
 exact jR
end Go.AL
end
section
set_option maxRecDepth 100000
namespace Go.AL.AsW
open Go Go.Proofs Go.RowKit Go.Extern.Stop Go.Stop Go.Extern
theorem rls (v x:Value):ReflectliteValue.set #[v,x]=(do
  let (some (dst,a,fl),some (src,b,_)):=(←ReflectliteValue.parts v,←ReflectliteValue.parts x)
   | unsupported (.noEntry "extern/(internal/reflectlite.Value).Set.zeroValue")
  if fl / ReflectliteValue.flagAddr % 2 == 0 then unsupported (.noEntry "extern/(internal/reflectlite.Value).Set.unaddressable")
  let val ←loadVar src b
  if ←Rtype.directlyAssignable dst src then storeVar dst a val
  else if ←Rtype.implements dst src then
   if (←Rtype.kind src) == 20 then
    match val with
    | .nilIface=>unsupported (.noEntry "extern/reflectlite: a nil value of one interface type handed on as a value of another")
    | _=>storeVar dst a val
   else storeVar dst a (.iface src val)
  else panicString ("reflectlite.Set: value of type " ++ (←Rtype.spelt src) ++ " is not assignable to type " ++ (←Rtype.spelt dst))
  pure (.tuple #[])):=rfl
theorem partsTa (a:Addr) (w:World):(ReflectliteValue.parts (.agg #[.pointer (some ⟨9,150,none⟩),.pointer (some a),.int .u64 409])).run Tryz.prog w = .ok (some (150,a,409)) w:=by kernel_rfl
theorem partsT (a:Addr) (w:World):(ReflectliteValue.parts (.agg #[.pointer (some ⟨9,150,none⟩),.pointer (some a),.int .u64 153])).run Tryz.prog w = .ok (some (150,a,153)) w:=by kernel_rfl
theorem directT (w:World):(Rtype.directlyAssignable 150 150).run Tryz.prog w = .ok true w:=by kernel_rfl
theorem sizeT (w:World):(sizeOf 150).run Tryz.prog w = .ok 1 w:=by kernel_rfl
theorem loadT (b:Addr) (s:ByteArray) (W:World) (hb:W.cell? b=some (.string s)):(loadVar 150 b).run Tryz.prog W = .ok (.agg #[.string s]) W:=by
 simp [loadVar,isAgg,underlying,Tryz.underlying150,Result.andThen,sizeT,loadCells,loadCellsFrom,Addr.add,hb]
theorem storeT (ta:Addr) (s:ByteArray) (old:Value) (W:World) (ht:W.cell? ta=some old) (hf:W.frozen? ta=false):(storeVar 150 ta (.agg #[.string s])).run Tryz.prog W = .ok () (W.setCell ta (.string s)):=by
 unfold storeVar
 simp [Sem.run_bind,sizeT,Result.andThen,Value.cells,storeCells,Addr.add]
 rw [run_store Tryz.prog W ta _ _ (by rfl)]
 simp [ht,hf]
theorem setT (ta b:Addr) (s:ByteArray) (old:Value) (W:World) (hb:W.cell? b=some (.string s)) (ht:W.cell? ta=some old) (hf:W.frozen? ta=false) :
  (ReflectliteValue.set #[.agg #[.pointer (some ⟨9,150,none⟩),.pointer (some ta),.int .u64 409],.agg #[.pointer (some ⟨9,150,none⟩),.pointer (some b),.int .u64 153]]).run Tryz.prog W
   = .ok (.tuple #[]) (W.setCell ta (.string s)):=by
 rw [rls]
 simp only [Sem.run_bind,partsTa,partsT,Result.andThen]
 simp [ReflectliteValue.flagAddr,loadT b s W hb,storeT ta s old W ht hf,Result.andThen,directT]
def w4 (t:Addr) (s:ByteArray) (w:World):World:=(((w.alloc (.cells #[.pointer (some t)] 152)).alloc (.cells #[.pointer (some ⟨9,152,none⟩),.pointer (some ⟨w.heap.size,0,none⟩),.int .u64 150] 201)).alloc (.cells #[.pointer (some ⟨9,152,none⟩),.pointer (some ⟨w.heap.size,0,none⟩),.int .u64 150] 201)).alloc (.cells #[.string s] 150)
end Go.AL.AsW
end
section
set_option maxRecDepth 100000
namespace Go.AL
open Go Go.Proofs
attribute [local irreducible] J
end Go.AL
end
section
set_option maxRecDepth 100000
namespace Go.AL
open Go Go.Proofs
attribute [local irreducible] J
end Go.AL
end
section
set_option maxRecDepth 100000
namespace Go.AL
open Go Go.Proofs
attribute [local irreducible] J
theorem tag3 {m:Mem} {q:Nat} (hr:mRight m=true) (hq:q < m.words.length):at' m.tags (q:Int)=0∨at' m.tags (q:Int)=1∨at' m.tags (q:Int)=2:=by
 obtain ⟨r1,r2,r3,r4⟩:=(mRight_iff m).1 hr
 have:=tag_bd (r4 q (by omega))
 omega
theorem rload_ok (m:Mem) (k:Int) (hr:mRight m=true):ACalls Tryz.prog 55 [encMem m,iv k] [] (one (.tup [iv (mLoad m k).1,iv (mLoad m k).2]) []):=by
 obtain ⟨r1,r2,r3,r4⟩:=(mRight_iff m).1 hr
 have h3:=fun q (hq:q < m.words.length)=>tag3 hr hq
 obtain ⟨ws,ts⟩:=m
 simp only at r1 r2 r3 r4 h3
 unfold encMem mCells ivs
 by_cases g:0≤k∧k < ws.length
 ·obtain ⟨q,rfl⟩:∃ q:Nat,k=q:=⟨k.toNat,by omega⟩
  have hi:inn (q:Int) 0 ((ws.length:Int)-1)=true:=inn_iff.2 ⟨by omega,by omega⟩
  have c1:decide ((q:Int) < 0)=false:=decide_eq_false (by omega)
  have c2:decide ((q:Int)≥((ws.map iv).length:Int))=false:=decide_eq_false (by rw [List.length_map];omega)
  have hqt:(q:Int) < ts.length:=by omega
  have hqw:(q:Int) < ws.length:=by omega
  have h3:=h3 q (by omega)
  have e1:mLoad ⟨ws,ts⟩ (q:Int)=cond (decide (why (at' ts (q:Int))=0)) (at' ws (q:Int),0) (0,why (at' ts (q:Int))):=by
   unfold mLoad mUse
   simp only [hi,cond_true,Int.toNat_natCast]
   rfl
  rw [e1]
  rcases h3 with e|e|e
  ·rw [e]
   refine jC Tryz.func55 Tryz.ntmps55 (fun w0 β0 ext hβ=>?_)
   repeat (first|refine jS ?_|refine jD ?_|refine jB ?_)
   rw [c1]
   repeat (first|refine jS ?_|refine jD ?_|refine jB ?_)
   rw [c2]
   repeat (first|refine jS ?_|refine jD ?_|refine jB ?_|refine jI (Int.natCast_nonneg q) hqt ?_)
   rw [e]
   repeat (first|refine jS ?_|refine jD ?_|refine jB ?_)
   exact jR
  ·rw [e]
   refine jC Tryz.func55 Tryz.ntmps55 (fun w0 β0 ext hβ=>?_)
   repeat (first|refine jS ?_|refine jD ?_|refine jB ?_)
   rw [c1]
   repeat (first|refine jS ?_|refine jD ?_|refine jB ?_)
   rw [c2]
   repeat (first|refine jS ?_|refine jD ?_|refine jB ?_|refine jI (Int.natCast_nonneg q) hqt ?_)
   rw [e]
   repeat (first|refine jS ?_|refine jD ?_|refine jB ?_|refine jI (Int.natCast_nonneg q) hqt ?_)
   rw [e]
   repeat (first|refine jS ?_|refine jD ?_|refine jB ?_|refine jI (l:=ws) (Int.natCast_nonneg q) hqw ?_)
   exact jR
  ·rw [e]
   refine jC Tryz.func55 Tryz.ntmps55 (fun w0 β0 ext hβ=>?_)
   repeat (first|refine jS ?_|refine jD ?_|refine jB ?_)
   rw [c1]
   repeat (first|refine jS ?_|refine jD ?_|refine jB ?_)
   rw [c2]
   repeat (first|refine jS ?_|refine jD ?_|refine jB ?_|refine jI (Int.natCast_nonneg q) hqt ?_)
   rw [e]
   repeat (first|refine jS ?_|refine jD ?_|refine jB ?_|refine jI (Int.natCast_nonneg q) hqt ?_)
   rw [e]
   repeat (first|refine jS ?_|refine jD ?_|refine jB ?_)
   exact jR
 ·have e:inn k 0 ((ws.length:Int)-1)=false:=by
   cases hi:inn k 0 ((ws.length:Int)-1) with
   | false=>rfl
   | true=>have:=inn_iff.1 hi;omega
  have e1:mLoad ⟨ws,ts⟩ k=(0,3):=by
   unfold mLoad mUse
   simp only [e]
   rfl
  rw [e1]
  by_cases g1:k < 0
  ·refine jC Tryz.func55 Tryz.ntmps55 (fun w0 β0 ext hβ=>?_)
   repeat (first|refine jS ?_|refine jD ?_|refine jB ?_)
   rw [show decide (k < 0)=true from decide_eq_true g1]
   repeat (first|refine jS ?_|refine jD ?_|refine jB ?_)
   exact jR
  ·refine jC Tryz.func55 Tryz.ntmps55 (fun w0 β0 ext hβ=>?_)
   repeat (first|refine jS ?_|refine jD ?_|refine jB ?_)
   rw [show decide (k < 0)=false from decide_eq_false g1]
   repeat (first|refine jS ?_|refine jD ?_|refine jB ?_)
   rw [show decide (k≥(((ws.map iv).length:Nat):Int))=true from decide_eq_true (by rw [List.length_map];omega)]
   repeat (first|refine jS ?_|refine jD ?_|refine jB ?_)
   exact jR
end Go.AL
end
section
set_option maxRecDepth 100000
namespace Go.AL
open Go Go.Proofs
attribute [local irreducible] J
end Go.AL
end
section
set_option maxRecDepth 100000
namespace Go.AL
open Go Go.Proofs
attribute [local irreducible] J
end Go.AL
end
section
set_option maxRecDepth 100000
namespace Go.AL
open Go Go.Proofs
attribute [local irreducible] J
end Go.AL
end
section
set_option maxRecDepth 100000
namespace Go.AL
open Go Go.Proofs
attribute [local irreducible] J
end Go.AL
end
section
set_option maxRecDepth 100000
namespace Go.AL
open Go Go.Proofs
attribute [local irreducible] J
end Go.AL
end
section
set_option maxRecDepth 100000
namespace Go.AL
open Go Go.Proofs
attribute [local irreducible] J
end Go.AL
end
section
set_option maxRecDepth 100000
namespace Go.AL
open Go Go.Proofs
attribute [local irreducible] J
end Go.AL
end
section
set_option maxRecDepth 100000
namespace Go.AL
open Go Go.Proofs
attribute [local irreducible] J
end Go.AL
end
section
set_option maxRecDepth 100000
namespace Go.AL
open Go Go.Proofs
attribute [local irreducible] J
end Go.AL
end
section
set_option maxRecDepth 100000
namespace Go.AL
open Go Go.Proofs
attribute [local irreducible] J
end Go.AL
end
section
set_option maxRecDepth 100000
namespace Go.AL
open Go Go.Proofs
attribute [local irreducible] J
end Go.AL
end
section
set_option maxRecDepth 100000
namespace Go.AL
open Go Go.Proofs
attribute [local irreducible] J
end Go.AL
end
section
set_option maxRecDepth 100000
namespace Go.AL
open Go Go.Proofs
attribute [local irreducible] J
end Go.AL
end
section
set_option maxRecDepth 100000
namespace Go.AL
open Go Go.Proofs
attribute [local irreducible] J
end Go.AL
namespace Go.AL
open Go Go.Proofs
attribute [local irreducible] J
end Go.AL
end
section
set_option maxRecDepth 100000
namespace Go.AL
open Go Go.Proofs
attribute [local irreducible] J
theorem rmright_ok (m:Mem) (hw:m.words.length≤1000000) (ht:m.tags.length≤1000000):ACalls Tryz.prog 21 [encMem m] [] (one (bv (mRight m)) []):=by
 obtain ⟨ws,ts⟩:=m
 simp only at hw ht
 have f1:decide (((ws.map iv).length:Int) < 1) = !decide (1≤ws.length):=by rw [List.length_map];exact dec_not (by omega)
 have f2:decide (((ws.map iv).length:Int) > 160) = !decide (ws.length≤160):=by rw [List.length_map];exact dec_not (by omega)
 have f3:(((ts.map iv).length:Int) != ((ws.map iv).length:Int)) = !decide (ts.length=ws.length):=by rw [List.length_map,List.length_map,int_bne];congr 1;exact decide_eq_decide.2 (by omega)
 unfold encMem mCells ivs mRight
 simp only
 cases b1:decide (1≤ws.length) with
 | false =>
  rw [b1] at f1
  refine jC Tryz.func21 Tryz.ntmps21 (fun w0 β0 ext hβ=>?_)
  repeat (first|refine jS ?_|refine jD ?_|refine jB ?_)
  rw [f1]
  repeat (first|refine jS ?_|refine jD ?_|refine jB ?_)
  exact jR
 | true =>
  rw [b1] at f1
  cases b2:decide (ws.length≤160) with
  | false =>
   rw [b2] at f2
   refine jC Tryz.func21 Tryz.ntmps21 (fun w0 β0 ext hβ=>?_)
   repeat (first|refine jS ?_|refine jD ?_|refine jB ?_)
   rw [f1]
   repeat (first|refine jS ?_|refine jD ?_|refine jB ?_)
   rw [f2]
   repeat (first|refine jS ?_|refine jD ?_|refine jB ?_)
   exact jR
  | true =>
   rw [b2] at f2
   cases b3:decide (ts.length=ws.length) with
   | false =>
    rw [b3] at f3
    refine jC Tryz.func21 Tryz.ntmps21 (fun w0 β0 ext hβ=>?_)
    repeat (first|refine jS ?_|refine jD ?_|refine jB ?_)
    rw [f1]
    repeat (first|refine jS ?_|refine jD ?_|refine jB ?_)
    rw [f2]
    repeat (first|refine jS ?_|refine jD ?_|refine jB ?_)
    rw [f3]
    repeat (first|refine jS ?_|refine jD ?_|refine jB ?_)
    exact jR
   | true =>
    rw [b3] at f3
    have hlen:ts.length=ws.length:=of_decide_eq_true b3
    obtain ⟨hz1,hz2⟩:=zipAll (p:=tagOk) hlen
    refine jC Tryz.func21 Tryz.ntmps21 (fun w0 β0 ext hβ=>?_)
    repeat (first|refine jS ?_|refine jD ?_|refine jB ?_)
    rw [f1]
    repeat (first|refine jS ?_|refine jD ?_|refine jB ?_)
    rw [f2]
    repeat (first|refine jS ?_|refine jD ?_|refine jB ?_)
    rw [f3]
    repeat (first|refine jS ?_|refine jD ?_|refine jB ?_)
    refine jloopI (fun k:Nat=>k≤ts.length∧∀ q,q < k→tagOk (at' ts (q:Int)) (at' ws (q:Int))=true) [1,2,25,26,27] (fun k=>[.ptr 0 0,bv false,.sl (ts.map iv),.v (.int .i64 ((ts.map iv).length:Int)),.v (.int .i64 (k:Int))])
     (fun _=>[.box 26 [.sl (ws.map iv),.sl (ts.map iv)]]) (fun k=>ts.length-k) 0 ⟨Nat.zero_le _,fun q h=>absurd h (by omega)⟩ rfl rfl (fun k hk=>?_)
    obtain ⟨hk,hok⟩:=hk
    repeat (first|refine jS ?_|refine jD ?_|refine jB ?_)
    refine jc rfl rfl rfl (fun h=>?_) (fun h=>?_)
    ·have h:=of_decide_eq_true h
     rw [List.length_map] at h
     have hk2:k < ts.length:=by omega
     have hkw:(k:Int) < ws.length:=by omega
     have hidx:IntKind.i64.wrap ((k:Int)+1)=((k+1:Nat):Int):=idx_next hk2 (by omega)
     have hno:=hz2 k hk2
     have hnx:tagOk (at' ts (k:Int)) (at' ws (k:Int))=true→∀ q,q < k+1→tagOk (at' ts (q:Int)) (at' ws (q:Int))=true:=fun hb q hq=>by
      by_cases e:q=k
      ·subst e;exact hb
      ·exact hok q (by omega)
     repeat (first|refine jS ?_|refine jD ?_|refine jB ?_|refine jI (Int.natCast_nonneg k) h ?_)
     generalize hT:at' ts (k:Int)=T at *
     generalize hV:at' ws (k:Int)=V at *
     by_cases g1:T < 0
     ·rw [decide_eq_true g1]
      rw [hno (by simp [tagOk];omega)]
      repeat (first|refine jS ?_|refine jD ?_|refine jB ?_)
      exact jR
     ·rw [decide_eq_false g1]
      repeat (first|refine jS ?_|refine jD ?_|refine jB ?_)
      by_cases g2:T > 2
      ·rw [decide_eq_true g2]
       rw [hno (by simp [tagOk];omega)]
       repeat (first|refine jS ?_|refine jD ?_|refine jB ?_)
       exact jR
      ·rw [decide_eq_false g2]
       repeat (first|refine jS ?_|refine jD ?_|refine jB ?_)
       by_cases g3:T=0
       ·subst g3
        repeat (first|refine jS ?_|refine jD ?_|refine jB ?_|refine jI (Int.natCast_nonneg k) hkw ?_)
        rw [hV]
        by_cases g4:V=0
        ·subst g4
         repeat (first|refine jS ?_|refine jD ?_|refine jB ?_)
         refine jnextI (k+1) ⟨by omega,hnx rfl⟩ ?_ rfl (by omega)
         show some _=some _
         rw [hidx]
        ·rw [show (V != 0)=true from by rw [bne_iff_ne];exact g4]
         rw [hno (by simp [tagOk,g4])]
         repeat (first|refine jS ?_|refine jD ?_|refine jB ?_)
         exact jR
       ·rw [show (T == 0)=false from by rw [beq_eq_false_iff_ne];exact g3]
        repeat (first|refine jS ?_|refine jD ?_|refine jB ?_)
        refine jnextI (k+1) ⟨by omega,hnx (by simp [tagOk];omega)⟩ ?_ rfl (by omega)
        show some _=some _
        rw [hidx]
    ·have h:=of_decide_eq_false h
     rw [List.length_map] at h
     rw [hz1 fun q hq=>hok q (by omega)]
     repeat (first|refine jS ?_|refine jD ?_|refine jB ?_)
     exact jR
end Go.AL
end
section
set_option maxRecDepth 100000
namespace Go.AL
open Go Go.Proofs
attribute [local irreducible] J
end Go.AL
end
section
set_option maxRecDepth 100000
namespace Go.AL
open Go Go.Proofs
attribute [local irreducible] J
theorem newOk_right {code:List Ins} {st:List Int} {m:Mem} {d:Int} (hc:rightC code=true) (hm:mRight m=true) (h1:1≤st.length) (h8:st.length≤8) (hd:0≤d∧d≤8) (hs:∀ a∈st,0≤a∧a≤code.length):WdR (newOk code st m d):=by
 have hl:code.length≤1000:=by
  unfold rightC at hc
  rw [Bool.and_eq_true] at hc
  exact of_decide_eq_true hc.1
 refine ⟨hc,⟨hm,⟨⟨by simp [newOk];omega,by simp [newOk];omega⟩,hd⟩,fun b hb=>?_⟩,by simp [newOk],fun t ht=>?_⟩
 ·have hb:b∈List.replicate st.length ([]:List Wput):=hb
  rw [List.eq_of_mem_replicate hb]
  exact ⟨hd.1,fun p hp=>absurd hp List.not_mem_nil⟩
 ·have ht:t∈st.map thrP:=ht
  obtain ⟨a,ha,rfl⟩:=List.mem_map.1 ht
  have:=hs a ha
  exact ⟨thRight_iff.2 ⟨by show 0≤a∧a≤1000;omega,Nat.zero_le _,Nat.zero_le _,fun f hf=>absurd hf List.not_mem_nil,fun f hf=>absurd hf List.not_mem_nil,.inl ⟨.inl rfl,rfl⟩⟩,.inl rfl⟩
def cl (L:Nat) (s:Int):Int:=(IntKind.i64.wrap (IntKind.i64.wrap (s.tmod (IntKind.i64.wrap ((L:Int)+1))+L)+1)).tmod (IntKind.i64.wrap ((L:Int)+1))
end Go.AL
end
section
set_option maxRecDepth 100000
namespace Go.AL
open Go Go.Proofs
theorem ACalls.argw {P:Program} {f:FuncId} {args args':List AVal} {H:List AObj} {Q:Eff} (h:ACalls P f args H Q) (hr:∀ (c:Ctx) us,RelL c args' us→RelL c args us):ACalls P f args' H Q :=
 ⟨h.enters,fun ext w β us hI hx h0=>h.calls ext w β us hI hx (hr _ _ h0)⟩
attribute [local irreducible] J
end Go.AL
end
section
set_option maxRecDepth 100000
namespace Go.AL
open Go Go.Proofs
attribute [local irreducible] J
def rst (s:Bs) (ls:List Bs):List Int:=ls.map fun l=>(rwhere s l).1
end Go.AL
end
section
set_option maxRecDepth 100000
namespace Go.AL
open Go Go.Proofs
attribute [local irreducible] J
theorem rst_eq {s:Bs} (h:(rparse s).2.2=0) (ls:List Bs):stAt s ls=rst s ls∧((∀ l∈ls,(whereP s l).2=0)↔∀ l∈ls,(rwhere s l).2=0):=by
 have e:∀ l,whereP s l=rwhere s l:=fun l=>by rw [where_eq,h];rfl
 unfold stAt rst
 simp only [e]
 exact ⟨trivial,trivial⟩
theorem newW_good {s:Bs} (h:(rparse s).2.2=0) (ls:List Bs) (m:Mem) (d:Int) (hm:mRight m=true) (hz:inn ls.length 1 8=true) (hd:inn d 0 8=true):newW (rparse s).1 (rst s ls) m d=(newOk (rparse s).1 (rst s ls) m d,0):=by
 unfold newW
 have hl:(rst s ls).length=ls.length:=by unfold rst;rw [List.length_map]
 rw [parse_right h,hm,hl,hz,hd]
 have:((rst s ls).all fun a=>inn a 0 (rparse s).1.length)=true:=List.all_eq_true.2 fun a ha=>by
  unfold rst at ha
  obtain ⟨l,_,rfl⟩:=List.mem_map.1 ha
  exact inn_iff.2 (where_right h)
 rw [this];rfl
theorem newOk_r {s:Bs} (h:(rparse s).2.2=0) (ls:List Bs) (m:Mem) (d:Int) (hm:mRight m=true) (hz:inn ls.length 1 8=true) (hd:inn d 0 8=true):WdR (newOk (rparse s).1 (rst s ls) m d):=by
 have hl:(rst s ls).length=ls.length:=by unfold rst;rw [List.length_map]
 obtain ⟨z1,z2⟩:=inn_iff.1 hz
 refine newOk_right (parse_right h) hm (by omega) (by omega) (inn_iff.1 hd) fun a ha=>?_
 unfold rst at ha
 obtain ⟨l,_,rfl⟩:=List.mem_map.1 ha
 exact where_right h
end Go.AL
end
section
set_option maxRecDepth 100000
namespace Go.AL
open Go Go.Proofs
end Go.AL
end
section
set_option maxRecDepth 100000
namespace Go.AL
open Go Go.Proofs
def kT (ts:List Int) (i:Nat):Nat:=(ts.getD i 0).toNat
def pcS (b j:Nat):Nat→Nat
 | 0=>b+10*j+0|1=>b+10*j+1|2=>0|3=>1|4=>2|5=>3|6=>4|7=>5|8=>3|9=>6
 | 10=>b+10*j+2|11=>b+10*j+3|12=>b+10*j+4|13=>b+10*j+5|14=>b+10*j+6|15=>b+10*j+7|16=>b+10*j+8|17=>b+10*j+9
 | 18=>7|19=>8|_=>9
def inLk (s:Nat):Bool:=decide (2≤s)&&decide (s≤9)
def inUn (s:Nat):Bool:=decide (18≤s)&&decide (s≤20)
def frS (b j s:Nat) (fs:List Frm):Prop:=(inLk s=true→∃ kp,fs=[⟨((b+10*j+2:Nat):Int),kp⟩])∧(inUn s=true→∃ kp,fs=[⟨((b+10*j+10:Nat):Int),kp⟩])∧(inLk s=false→inUn s=false→fs=[])
def rgS (s:Nat) (c:Int) (r:List Int):Prop:=match s with
 | 1=>g0 r 0=1
 | 2=>g0 r 0=1
 | 3=>g0 r 0=1∧g0 r 1=0
 | 4=>g0 r 0=1∧g0 r 1=0∧g0 r 2=1
 | 5=>g0 r 0=1∧g0 r 1=1
 | 6=>g0 r 0=1∧g0 r 1=1
 | 7=>g0 r 0=1
 | 8=>g0 r 0=1∧g0 r 1=0
 | 12=>g0 r 4=2
 | 13=>g0 r 4=2∧g0 r 5=c
 | 14=>g0 r 4=2∧g0 r 5=c+1
 | 17=>g0 r 0=1
 | 18=>g0 r 0=1
 | 19=>g0 r 0=1∧g0 r 1=0
 | _=>True
structure At (ts:List Int) (i:Nat) (p:Nat × Nat) (c:Int) (t:Thr):Prop where
 run:(p.1 < kT ts i∧p.2≤20∧t.state=0)∨(p.1=kT ts i∧p.2=0∧t.state=0)∨(p.1=kT ts i∧p.2=21∧t.state=1)
 pc:t.state=0→t.pc=((pcS (spAt ts i) p.1 p.2:Nat):Int)
 fr:frS (spAt ts i) p.1 p.2 t.frames
 rg:rgS p.2 c t.regs
 left:t.left=[]
 fault:t.fault=0
def hol (s:Nat):Bool:=decide (8≤s)&&decide (s≤19)
def ins1 (s:Nat):Bool:=decide (11≤s)&&decide (s≤15)
def insN (p:Nat × Nat):Nat:=p.1+(cond (decide (11≤p.2)&&decide (p.2≤20)) 1 0)
def outN (p:Nat × Nat):Nat:=p.1+(cond (decide (16≤p.2)&&decide (p.2≤20)) 1 0)
def up (ls:Nat→Nat × Nat) (k:Nat) (p:Nat × Nat):Nat→Nat × Nat:=fun q=>if q=k then p else ls q
theorem up_at (ls:Nat→Nat × Nat) (k:Nat) (p:Nat × Nat):up ls k p k=p:=if_pos rfl
theorem up_ne (ls:Nat→Nat × Nat) {k q:Nat} (p:Nat × Nat) (h:q≠k):up ls k p q=ls q:=if_neg h
structure Sc where
 inside:Int
 ins:List Int
 outs:List Int
def inc (l:List Int) (k:Nat):List Int:=l.set k (g0 l k+1)
def scStep (n:Nat) (s:Sc) (e:Evt):Option Sc :=
 cond (decide (e.who < 0)||decide (e.who≥n)) none
  (cond (decide (e.kind=2)) (cond (decide (s.inside≥0)) none (some ⟨e.who,inc s.ins e.who.toNat,s.outs⟩))
   (cond (decide (e.kind=3)) (cond (decide (s.inside=e.who)) (some ⟨-1,s.ins,inc s.outs e.who.toNat⟩) none) none))
def scE (n:Nat) (l:List Evt):Option Sc:=l.foldl (fun o e=>o.bind fun s=>scStep n s e) (some ⟨-1,List.replicate n 0,List.replicate n 0⟩)
def cntE (kd:Int) (l:List Evt):Nat:=(l.filter fun e=>decide (e.kind=kd)).length
def tally (n:Nat) (f:Nat→Nat):List Int:=(List.range n).map fun i=>((f i:Nat):Int)
def gS:Nat→Nat
 | 0=>18|1=>17|2=>16|3=>15|4=>14|5=>19|6=>18|7=>17|8=>13|9=>12|10=>11|11=>10|12=>9|13=>8|14=>7|15=>6|16=>5|17=>4|18=>3|19=>2|20=>1|_=>0
def spn (s:Nat):Bool:=decide (s≤4)||decide (s=7)
def sur (s:Nat) (lk:Int):Nat:=cond (spn s&&decide (lk=1)) 6 0
def phi (K:Nat) (p:Nat × Nat) (lk:Int):Nat:=cond (decide (p.1 < K)) (25*(K-p.1-1)+gS p.2+sur p.2 lk+1) (cond (decide (p.2=0)) 1 0)
def acq (p:Nat × Nat):Nat:=p.1+cond (decide (8≤p.2)&&decide (p.2≤20)) 1 0
def hI (n K:Nat) (p:Nat × Nat) (lk:Int) (b:Nat):Nat:=2*phi K p lk+b+14*n*(K-acq p)
structure SpI (ts:List Int) (w:Wd) (ls:Nat→Nat × Nat) (c:Nat) (lk:Int) (ind:Int):Prop where
 code:w.code=spCode ts
 len:w.thr.length=ts.length
 mem:w.tso.mem=⟨[0,lk,(c:Int)],[0,1,1]⟩
 at_:∀ i,i < ts.length→At ts i (ls i) c (thrAt w i)
 buf:∀ i,i < ts.length→bufAt w.tso i=[]∨(15≤(ls i).2∧(ls i).2≤19∧bufAt w.tso i=[⟨2,(c:Int)+1⟩])
 own:(lk=0∧cntE 2 w.evs=cntE 3 w.evs∧c=cntE 3 w.evs∧∀ i,i < ts.length→hol (ls i).2=false) ∨
  (lk=1∧∃ h,h < ts.length∧hol (ls h).2=true∧(∀ i,i < ts.length→i≠h→hol (ls i).2=false)∧cntE 2 w.evs=cntE 3 w.evs+cond (ins1 (ls h).2) 1 0∧c+(bufAt w.tso h).length=cntE 3 w.evs+cond (decide ((ls h).2=15)) 1 0)
 who:(ind = -1∧∀ i,i < ts.length→ins1 (ls i).2=false)∨(∃ h:Nat,ind=h∧h < ts.length∧ins1 (ls h).2=true)
 sc:scE ts.length w.evs=some ⟨ind,tally ts.length fun i=>insN (ls i),tally ts.length fun i=>outN (ls i)⟩
end Go.AL
end
section
set_option maxRecDepth 100000
namespace Go.AL
open Go Go.Proofs
structure Here (ts:List Int) (w:Wd) (ls:Nat→Nat × Nat) (c:Nat) (k j s:Nat) (i:Ins):Prop where
 hw:WdR w
 hk:k < w.thr.length
 hls:ls k=(j,s)
 hj:j < kT ts k
 h0:(thrAt w k).state=0
 hi:instrAt w (thrAt w k)=i
 hp:(thrAt w k).pc≠1000
 pc:(thrAt w k).pc=((pcS (spAt ts k) j s:Nat):Int)
 fr:frS (spAt ts k) j s (thrAt w k).frames
 rg:rgS s c (thrAt w k).regs
 left:(thrAt w k).left=[]
 fault:(thrAt w k).fault=0
section
variable {ts:List Int} {w:Wd} {ls:Nat→Nat × Nat} {c:Nat} {lk ind:Int} {k j:Nat}
end
end Go.AL
end
section
set_option maxRecDepth 100000
namespace Go.AL
open Go Go.Proofs
section
variable {ts:List Int} {w:Wd} {ls:Nat→Nat × Nat} {c:Nat} {lk ind:Int} {k j:Nat}
theorem Here.kl {s:Nat} {i:Ins} (H:Here ts w ls c k j s i) (h:SpI ts w ls c lk ind):k < ts.length:=by rw [←h.len];exact H.hk
end
end Go.AL
end
section
set_option maxRecDepth 100000
namespace Go.AL
open Go Go.Proofs
section
variable {ts:List Int} {w:Wd} {ls:Nat→Nat × Nat} {c:Nat} {lk ind:Int} {k j:Nat}
theorem holds (h:SpI ts w ls c lk ind) (hk:k < ts.length) (hh:hol (ls k).2=true):lk=1∧(∀ i,i < ts.length→i≠k→hol (ls i).2=false)∧cntE 2 w.evs=cntE 3 w.evs+cond (ins1 (ls k).2) 1 0∧c+(bufAt w.tso k).length=cntE 3 w.evs+cond (decide ((ls k).2=15)) 1 0:=by
 rcases h.own with ⟨a,b,d,e⟩|⟨a,q,b,d,e,f,g⟩
 ·rw [e k hk] at hh;cases hh
 ·by_cases hq:k=q
  ·subst hq;exact ⟨a,e,f,g⟩
  ·rw [e k hk hq] at hh;cases hh
theorem At.set {ts:List Int} {w:Wd} {ls:Nat→Nat × Nat} {c':Int} {k:Nat} {t:Thr} {p:Nat × Nat} (hw:k < w.thr.length) (h:∀ i,i < ts.length→i≠k→At ts i (ls i) c' (thrAt w i)) (ht:At ts k p c' t):∀ i,i < ts.length→At ts i (up ls k p i) c' (thrAt (setT w k t) i):=fun i hi=>by
 rw [thrAt_set _ _ hw]
 by_cases e:i=k
 ·subst e;rw [if_pos rfl,up_at];exact ht
 ·rw [if_neg e,up_ne ls _ e];exact h i hi e
end
end Go.AL
end
section
set_option maxRecDepth 100000
namespace Go.AL
open Go Go.Proofs
attribute [local irreducible] J
abbrev Pr:=Int × Int
def encP (p:Pr):AVal:=.agg [iv p.1,iv p.2]
def encPs (l:List Pr):AVal:=.sl (l.map encP)
abbrev Mn:=List (Int × Int)
def encN (m:Mn):List (Value × Value):=m.map fun p=>(.int .i64 p.1,.int .i64 p.2)
theorem encN_find (m:Mn) (a:Int):MFind (vals (encN m)) (.int .i64 a) ((m.lookup a).map iv):=by
 induction m with
 | nil=>rfl
 | cons p m ih =>
  obtain ⟨q,n⟩:=p
  by_cases h:q=a
  ·subst h
   exact .inl ⟨rfl,by simp [List.lookup,iv]⟩
  ·refine .inr ⟨fun e=>h (by injection e),?_⟩
   have:List.lookup a ((q,n)::m)=List.lookup a m:=by
    simp only [List.lookup]
    have:(a == q)=false:=by simp;exact fun e=>h e.symm
    rw [this]
   rw [this]
   exact ih
theorem encN_keys (m:Mn):MKeys (.int .i64) (vals (encN m)):=by
 intro p hp
 obtain ⟨q,hq,rfl⟩:=List.mem_map.1 hp
 obtain ⟨q',_,rfl⟩:=List.mem_map.1 hq
 rfl
def cntN (m:Mn) (s:Int):Int:=(m.lookup s).getD 0
def bumpN:Mn→Int→Mn
 | [],s=>[(s,1)]
 | (k,n)::m,s=>cond (decide (k=s)) ((s,n+1)::m) ((k,n)::bumpN m s)
theorem look_cons (k n s:Int) (m:Mn):List.lookup s ((k,n)::m)=if s=k then some n else List.lookup s m:=by
 simp only [List.lookup]
 by_cases h:s=k
 ·subst h;simp
 ·have:(s == k)=false:=by simpa using h
  rw [this,if_neg h]
theorem bumpN_put:∀ (m:Mn) (s:Int),MPut (vals (encN m)) (.int .i64 s) (iv (cntN m s+1)) (vals (encN (bumpN m s)))
 | [],s=>rfl
 | (k,n)::m,s=>by
  unfold bumpN cntN
  rw [look_cons]
  by_cases h:k=s
  ·subst h
   rw [decide_eq_true rfl,if_pos rfl]
   exact .inl ⟨rfl,rfl⟩
  ·rw [decide_eq_false h,if_neg (fun e=>h e.symm)]
   exact .inr ⟨fun e=>h (by injection e),_,rfl,bumpN_put m s⟩
theorem bumpN_look:∀ (m:Mn) (s x:Int),(bumpN m s).lookup x=if x=s then some (cntN m s+1) else m.lookup x
 | [],s,x=>by
  unfold bumpN cntN
  rw [look_cons];rfl
 | (k,n)::m,s,x=>by
  unfold bumpN cntN
  rw [look_cons,look_cons]
  by_cases h:k=s
  ·subst h
   rw [decide_eq_true rfl,if_pos rfl]
   simp only [cond_true]
   rw [look_cons]
   by_cases hx:x=k
   ·rw [if_pos hx,if_pos hx];rfl
   ·rw [if_neg hx,if_neg hx,if_neg hx]
  ·rw [decide_eq_false h,if_neg (show ¬s=k from fun e=>h e.symm)]
   simp only [cond_false]
   rw [look_cons,bumpN_look m s x]
   by_cases hx:x=k
   ·rw [if_pos hx,if_neg (show ¬x=s from fun e=>h (hx.symm.trans e)),if_pos hx]
   ·rw [if_neg hx,if_neg hx];rfl
def has1 (l:List Pr) (i:Nat):Bool:=(l.take i).any fun q=>decide (q.1=(at' l (i:Int)).1)
def prsB (l:List Pr):Bool:=(List.range l.length).all fun i=>!has1 l i
def prsOk (l:List Pr):Bool:=prsB l&&decide (l.length≤12)
theorem prsB_no {l:List Pr} {k:Nat} (hk:k < l.length) (h:has1 l k=true):prsOk l=false:=by
 unfold prsOk
 have:prsB l=false:=by
  unfold prsB
  rw [List.all_eq_false]
  exact ⟨k,List.mem_range.2 hk,by rw [h];decide⟩
 rw [this];rfl
theorem prsB_yes {l:List Pr} (h:∀ q,q < l.length→has1 l q=false):prsOk l=decide (l.length≤12):=by
 unfold prsOk
 have:prsB l=true:=by
  unfold prsB
  rw [List.all_eq_true]
  intro i hi
  rw [h i (List.mem_range.1 hi)];rfl
 rw [this];rfl
def metP (l:List Pr) (k:Nat):Mn:=(l.take k).foldl (fun m p=>bumpN m p.1) []
theorem metP_succ {l:List Pr} {k:Nat} (h:k < l.length):metP l (k+1)=bumpN (metP l k) (at' l (k:Int)).1:=by
 unfold metP
 rw [List.take_succ_eq_append_getElem h,List.foldl_append,at_nat l k h];rfl
theorem metP_look {l:List Pr}:∀ k,k≤l.length→(∀ q,q < k→has1 l q=false)→∀ x,(metP l k).lookup x=if (l.take k).any (fun q=>decide (q.1=x))=true then some 1 else none
 | 0,_,_,x=>by simp [metP]
 | k+1,hk,h,x=>by
  have ih:=metP_look k (by omega) (fun q hq=>h q (by omega))
  have hk2:k < l.length:=by omega
  have hx:=h k (by omega)
  unfold has1 at hx
  rw [metP_succ hk2,bumpN_look,List.take_succ_eq_append_getElem hk2,List.any_append,ih]
  unfold cntN
  rw [ih,hx,←at_nat l k hk2]
  by_cases e:x=(at' l (k:Int)).1
  ·rw [if_pos e,e]
   simp
  ·rw [if_neg e]
   have:([at' l (k:Int)].any fun q=>decide (q.1=x))=false:=by simp;exact fun e2=>e e2.symm
   rw [this,Bool.or_false]
theorem may_ok (l:List Pr) (hl:l.length≤1000000):ACalls Tryz.prog 41 [encPs l] [] (one (bv (prsOk l)) []):=by
 unfold encPs
 refine jC Tryz.func41 Tryz.ntmps41 (fun w0 β0 ext hβ=>?_)
 repeat (first|refine jS ?_|refine jD ?_|refine jB ?_|refine jo rfl rfl (map_newV) rfl rfl ?_)
 refine jfin 1 [3,0,7,8,9] true rfl rfl rfl (jbl hβ) ?_
 refine jloop 1 (fun k:Nat=>k≤l.length∧∀ q,q < k→has1 l q=false) [3,0,7,8,9] (fun k=>[.mp 0,.sl (l.map encP),.sl (l.map encP),.v (.int .i64 ((l.map encP).length:Int)),.v (.int .i64 (k:Int))])
  (fun k=>[.vmap (encN (metP l k))]) (fun k=>l.length-k) 0 (jbl hβ) ⟨Nat.zero_le _,fun q h=>absurd h (by omega)⟩ rfl rfl (fun k hk=>?_)
 obtain ⟨hk,hok⟩:=hk
 repeat (first|refine jS ?_|refine jD ?_|refine jB ?_)
 refine jc rfl rfl rfl (fun h=>?_) (fun h=>?_)
 ·have h:=of_decide_eq_true h
  rw [List.length_map] at h
  have hk2:k < l.length:=by omega
  have hidx:IntKind.i64.wrap ((k:Int)+1)=((k+1:Nat):Int):=idx_next hk2 (by omega)
  have hms:=metP_succ hk2
  have hlk:=metP_look k (by omega) hok (at' l (k:Int)).1
  have hb:has1 l k=(l.take k).any fun q=>decide (q.1=(at' l (k:Int)).1):=rfl
  rw [←hb] at hlk
  have hno:=@prsB_no l k hk2
  have hnx:has1 l k=false→∀ q,q < k+1→has1 l q=false:=fun h0 q hq=>by
   by_cases e:q=k
   ·subst e;exact h0
   ·exact hok q (by omega)
  clear hb
  repeat (first|refine jS ?_|refine jD ?_|refine jB ?_|refine jI (Int.natCast_nonneg k) h ?_)
  generalize at' l (k:Int)=p at *
  obtain ⟨a,b⟩:=p
  generalize metP l k=m at *
  simp only at hlk hms
  have hf:=encN_find m a
  have hks:=encN_keys m
  have hpu:=bumpN_put m a
  have hf2:=encN_find (bumpN m a) a
  have hks2:=encN_keys (bumpN m a)
  rw [bumpN_look,if_pos rfl] at hf2
  unfold cntN at hpu hf2
  rw [hlk] at hf hpu hf2
  cases hh:has1 l k with
  | true =>
   rw [hh] at hf hpu hf2
   rw [hno hh]
   repeat (first|refine jS ?_|refine jD ?_|refine jB ?_|refine jo rfl rfl (map_get rfl rfl rfl rfl rfl rfl rfl rfl rfl rfl hks hf rfl) rfl rfl ?_)
   repeat (first|refine jS ?_|refine jD ?_|refine jB ?_|refine jo rfl rfl (map_put (mo':=.vmap (encN (bumpN m a))) (.inl rfl) rfl rfl rfl rfl rfl rfl rfl rfl rfl rfl hks hpu rfl) rfl rfl ?_)
   repeat (first|refine jS ?_|refine jD ?_|refine jB ?_|refine jo rfl rfl (map_get rfl rfl rfl rfl rfl rfl rfl rfl rfl rfl hks2 hf2 rfl) rfl rfl ?_)
   exact jR
  | false =>
   rw [hh] at hf hpu hf2
   repeat (first|refine jS ?_|refine jD ?_|refine jB ?_|refine jo rfl rfl (map_get rfl rfl rfl rfl rfl rfl rfl rfl rfl rfl hks hf rfl) rfl rfl ?_)
   repeat (first|refine jS ?_|refine jD ?_|refine jB ?_|refine jo rfl rfl (map_put (mo':=.vmap (encN (bumpN m a))) (.inl rfl) rfl rfl rfl rfl rfl rfl rfl rfl rfl rfl hks hpu rfl) rfl rfl ?_)
   repeat (first|refine jS ?_|refine jD ?_|refine jB ?_|refine jo rfl rfl (map_get rfl rfl rfl rfl rfl rfl rfl rfl rfl rfl hks2 hf2 rfl) rfl rfl ?_)
   refine jnext (k+1) ⟨hk2,hnx hh⟩ (by omega) rfl rfl rfl ?_ ?_
   ·rw [hidx]
   ·rw [hms]
 ·have h:=of_decide_eq_false h
  rw [List.length_map] at h
  have:k=l.length:=by omega
  subst this
  rw [prsB_yes hok]
  repeat (first|refine jS ?_|refine jD ?_|refine jB ?_)
  rw [show decide ((((l.map encP).length:Nat):Int)≤12)=decide (l.length≤12) from by rw [List.length_map];exact decide_eq_decide.2 (by omega)]
  exact jR
def keysOk (l:List Int):Bool:=l.all fun k=>inn k (-1000000000) 1000000000
theorem csame_ok (l:List Pr) (hl:l.length≤1000000):ACalls Tryz.prog 23 [encPs l,encPs l] [] (one (bv true) []):=by
 unfold encPs
 refine jC Tryz.func23 Tryz.ntmps23 (fun w0 β0 ext hβ=>?_)
 repeat (first|refine jS ?_|refine jD ?_|refine jB ?_)
 rw [show ((((l.map encP).length:Nat):Int) != (((l.map encP).length:Nat):Int))=false from by simp]
 repeat (first|refine jS ?_|refine jD ?_|refine jB ?_)
 refine jloopI (fun k:Nat=>k≤l.length) [0,1,12,13] (fun k=>[.sl (l.map encP),.sl (l.map encP),.v (.int .i64 ((l.map encP).length:Int)),.v (.int .i64 (k:Int))])
  (fun k=>[]) (fun k=>l.length-k) 0 (Nat.zero_le _) rfl rfl (fun k hk=>?_)
 repeat (first|refine jS ?_|refine jD ?_|refine jB ?_)
 refine jc rfl rfl rfl (fun h=>?_) (fun h=>?_)
 ·have h:=of_decide_eq_true h
  rw [List.length_map] at h
  have hk2:k < l.length:=by omega
  have hidx:IntKind.i64.wrap ((k:Int)+1)=((k+1:Nat):Int):=idx_next hk2 (by omega)
  repeat (first|refine jS ?_|refine jD ?_|refine jB ?_|refine jI (Int.natCast_nonneg k) h ?_|refine jo rfl rfl (eq_intsR (xs:=[(at' l (k:Int)).1,(at' l (k:Int)).2]) (ys:=[(at' l (k:Int)).1,(at' l (k:Int)).2]) (Or.inr rfl) rfl rfl rfl rfl rfl rfl (by kernel_rfl) (by kernel_rfl)) rfl rfl ?_)
  refine jc rfl rfl rfl (fun h=>absurd h (by simp)) (fun h=>?_)
  repeat (first|refine jS ?_|refine jD ?_|refine jB ?_)
  refine jnextI (k+1) hk2 ?_ rfl (by omega)
  show some _=some _
  rw [hidx]
 ·have h:=of_decide_eq_false h
  repeat (first|refine jS ?_|refine jD ?_|refine jB ?_)
  exact jR
end Go.AL
end
section
set_option maxRecDepth 100000
namespace Go.AL
open Go Go.Proofs
theorem g0_mkTags {tags:List Int} {k n:Nat} {tag:Int} (h:k+n≤tags.length) (q:Nat):g0 (mkTags tags k n tag) q=if k≤q∧q < k+n then tag else g0 tags q:=by
 unfold mkTags g0
 simp only [List.getD_eq_getElem?_getD]
 by_cases h1:q < k
 ·rw [if_neg (by omega),List.append_assoc,List.getElem?_append_left (by simp;omega),List.getElem?_take_of_lt h1]
 ·by_cases h2:q < k+n
  ·rw [if_pos (by omega),List.getElem?_append_left (by simp;omega),List.getElem?_append_right (by simp;omega),List.getElem?_replicate,if_pos (by simp;omega)]
   rfl
  ·rw [if_neg (by omega),List.getElem?_append_right (by simp;omega),List.getElem?_drop]
   congr 2
   simp;omega
structure Had (m m':Mem) (k n:Nat):Prop where
 right:mRight m'=true
 words:m'.words=m.words
 len:m'.tags.length=m'.words.length
 fits:k+n≤m'.words.length
 inside:∀ q,k≤q→q < k+n→g0 m'.tags q=1
 outside:∀ q,¬(k≤q∧q < k+n)→g0 m'.tags q=g0 m.tags q
 was:∀ q,k≤q→q < k+n→g0 m.tags q≠1
theorem mkBad_zero {tags:List Int} {k:Nat}:∀ n,mkBad tags k 1 n=0→∀ q,q < n→g0 tags (k+q)≠1
 | 0,_,q,hq=>absurd hq (by omega)
 | n+1,h,q,hq=>by
  unfold mkBad at h
  cases h1:decide (mkBad tags k 1 n=0) with
  | false=>rw [h1] at h;exact absurd h (of_decide_eq_false h1)
  | true =>
   rw [h1] at h
   have ih:=mkBad_zero n (of_decide_eq_true h1)
   by_cases e:q=n
   ·subst e
    intro e2
    rw [cond_true,e2] at h
    exact absurd h (by decide)
   ·exact ih q (by omega)
theorem mMark_had {m:Mem} {k n:Int} (hr:mRight m=true) (h:(mMark m k n 1).2=0):0≤k∧1≤n∧Had m (mMark m k n 1).1 k.toNat n.toNat:=by
 obtain ⟨r1,r2⟩:=mMark_right hr (.inl rfl) h
 obtain ⟨s1,s2,s3,s4⟩:=(mRight_iff m).1 hr
 obtain ⟨t1,t2,t3,t4⟩:=(mRight_iff _).1 r1
 unfold mMark at h r1 t3 ⊢
 cases hc:(decide (1≤n)&&(inn k 0 (m.words.length-1)&&decide (n≤m.words.length-k))) with
 | false=>rw [hc] at h;cases h
 | true =>
  rw [hc] at h r1 t3
  simp only [Bool.and_eq_true,decide_eq_true_eq,inn_iff] at hc
  cases hb:decide (mkBad m.tags k.toNat 1 n.toNat=0) with
  | false =>
   rw [hb] at h
   exact absurd h (of_decide_eq_false hb)
  | true =>
   rw [hb] at r1 t3
   have hle:k.toNat+n.toNat≤m.tags.length:=by omega
   simp only [cond_true] at r1 t3 ⊢
   refine ⟨hc.2.1.1,hc.1,r1,rfl,t3,by show k.toNat+n.toNat≤m.words.length;omega,fun q h1 h2=>?_,fun q hq=>?_,fun q h1 h2=>?_⟩
   ·show g0 (mkTags m.tags k.toNat n.toNat 1) q=1
    rw [g0_mkTags hle,if_pos ⟨h1,h2⟩]
   ·show g0 (mkTags m.tags k.toNat n.toNat 1) q=_
    rw [g0_mkTags hle,if_neg hq]
   ·have:=mkBad_zero _ (of_decide_eq_true hb) (q-k.toNat) (by omega)
    rw [show k.toNat+(q-k.toNat)=q by omega] at this
    exact this
theorem use_live {m:Mem} {q:Nat} (h:q < m.words.length) (h1:g0 m.tags q=1):mUse m (q:Int)=0:=by
 unfold mUse
 rw [inn_iff.2 ⟨by omega,by omega⟩]
 show why (g0 m.tags ((q:Int)).toNat)=0
 rw [show ((q:Int)).toNat=q by omega,h1];rfl
theorem store_live {m:Mem} {q:Nat} {v:Int} (h:q < m.words.length) (h1:g0 m.tags q=1):mStore m (q:Int) v=(⟨m.words.set q v,m.tags⟩,0):=by
 unfold mStore
 rw [decide_eq_true (use_live h h1),show ((q:Int)).toNat=q by omega];rfl
def stL:List Int→Nat→List Int→List Int
 | ws,_,[]=>ws
 | ws,k,x::xs=>stL (ws.set k x) (k+1) xs
theorem stL_len:∀ (xs ws:List Int) (k:Nat),(stL ws k xs).length=ws.length
 | [],ws,k=>rfl
 | x::xs,ws,k=>by unfold stL;rw [stL_len xs];simp
theorem stL_snoc:∀ (xs ws:List Int) (k:Nat) (x:Int),stL ws k (xs++[x])=(stL ws k xs).set (k+xs.length) x
 | [],ws,k,x=>rfl
 | y::xs,ws,k,x=>by
  show stL (ws.set k y) (k+1) (xs++[x])=_
  rw [stL_snoc xs]
  show _=(stL (ws.set k y) (k+1) xs).set _ _
  congr 1
  simp;omega
def chNx (n:Nat) (base:Int) (i:Nat):Int:=if i+1=n then 0 else base+3*((i:Int)+1)
def chW (n:Nat) (base:Int) (l:List Pr) (k:Nat):List Int:=(l.zipIdx k).flatMap fun p=>[p.1.1,p.1.2,chNx n base p.2]
theorem chW_len (n:Nat) (base:Int):∀ (l:List Pr) (k:Nat),(chW n base l k).length=3*l.length
 | [],k=>rfl
 | x::xs,k=>by
  have:=chW_len n base xs (k+1)
  unfold chW at this ⊢
  rw [List.zipIdx_cons,List.flatMap_cons,List.length_append,this]
  simp;omega
theorem chW_succ (n:Nat) (base:Int) (l:List Pr) {q:Nat} (h:q < l.length):chW n base (l.take (q+1)) 0=chW n base (l.take q) 0++[(at' l (q:Int)).1,(at' l (q:Int)).2,chNx n base q]:=by
 unfold chW
 rw [List.take_succ_eq_append_getElem h,List.zipIdx_append,List.flatMap_append,at_nat l q h,List.length_take,Nat.min_eq_left (Nat.le_of_lt h)]
 simp
def chM (m:Mem) (at' base:Nat) (l:List Pr):Mem:=⟨(stL m.words base (chW l.length base l 0)).set at' (if l=[] then 0 else base),m.tags⟩
def rngBad (L:Nat) (at' base:Int) (n:Nat):Bool:=decide (at' < 0)||(decide (at'≥L)||(decide (0 < n)&&(decide (base < 1)||(decide (base > L)||decide ((n:Int) > L-base)))))
def lay1 (m:Mem) (a:Int):Mem × Int:=mMark m a 1 1
def lay2 (m:Mem) (a base:Int) (n:Nat):Mem × Int:=cond (decide (0 < n)) (mMark (lay1 m a).1 base n 1) (lay1 m a)
def layP (m:Mem) (a base:Int) (l:List Pr):Mem × Int :=
 cond (mRight m&&prsOk l) (cond (rngBad m.words.length a base (3*l.length)) (mem0,3) (cond (decide ((lay1 m a).2=0)) (cond (decide ((lay2 m a base (3*l.length)).2=0)) (chM (lay2 m a base (3*l.length)).1 a.toNat base.toNat l,0) (mem0,(lay2 m a base (3*l.length)).2)) (mem0,(lay1 m a).2))) (mem0,1)
structure Laid (m m2:Mem) (a b n:Nat):Prop where
 right:mRight m2=true
 words:m2.words=m.words
 len:m2.tags.length=m2.words.length
 at1:a < m2.words.length
 live:g0 m2.tags a=1
 fits:n=0∨b+n≤m2.words.length
 row:∀ q,b≤q→q < b+n→g0 m2.tags q=1
 apart:n=0∨a < b∨b+n≤a
theorem laid_ok {m:Mem} {a base:Int} {n:Nat} (hr:mRight m=true) (h1:(lay1 m a).2=0) (h2:(lay2 m a base n).2=0):0≤a∧(0 < n→0≤base)∧Laid m (lay2 m a base n).1 a.toNat base.toNat n:=by
 unfold lay2 at h2 ⊢
 unfold lay1 at h1 h2 ⊢
 obtain ⟨k1,k2,H⟩:=mMark_had hr h1
 have hin:=H.inside a.toNat (Nat.le_refl _) (by omega)
 have hf:=H.fits
 rw [show (1:Int).toNat=1 from rfl] at H hf
 by_cases hn:0 < n
 ·rw [decide_eq_true hn] at h2 ⊢
  simp only [cond_true] at h2 ⊢
  obtain ⟨j1,j2,K⟩:=mMark_had H.right h2
  rw [show ((n:Int)).toNat=n by omega] at K
  have hap:a.toNat < base.toNat∨base.toNat+n≤a.toNat:=by
   rcases Nat.lt_or_ge a.toNat base.toNat with h|h
   ·exact .inl h
   ·rcases Nat.lt_or_ge a.toNat (base.toNat+n) with h'|h'
    ·exact absurd hin (K.was _ h h')
    ·exact .inr h'
  refine ⟨k1,fun _=>j1,K.right,K.words.trans H.words,K.len,by rw [K.words];omega,?_,.inr K.fits,K.inside,.inr hap⟩
  rw [K.outside _ (by omega)];exact hin
 ·rw [decide_eq_false hn] at h2 ⊢
  simp only [cond_false] at h2 ⊢
  exact ⟨k1,fun h=>absurd h hn,H.right,H.words,H.len,by omega,hin,.inl (by omega),fun q q1 q2=>absurd q2 (by omega),.inl (by omega)⟩
end Go.AL
end
section
set_option maxRecDepth 100000
namespace Go.AL
open Go Go.Proofs
attribute [local irreducible] J
end Go.AL
end
section
set_option maxRecDepth 100000
namespace Go.AL
open Go Go.Proofs
attribute [local irreducible] J
theorem make_pub [T:TyTab Tryz.prog] {dst:Option Tmp} {t:TypeId} {l c:Operand} {type:TypeId} {pos:String} {after:Array Edge} {guard:Option (Nat × Bool)} {F:Fr} {H:List AObj} {e:TypeId} {r r':TyRow} {kl kc:IntKind} {n:Int} (m:Nat) {z:Value}
  (hl:ev F l=some (.v (.int kl n))) (hc:ev F c=some (.v (.int kc n))) (hm:n=(m:Int)) (ht:tfind T.tab t=some r') (hd:r'.d = .slice e) (he:tfind T.tab e=some r) (hz:r.z=z) (hs:r.size=1) (hzc:z.cells = #[z]) (hb:r.bytes≤1000) (hk:m≤1000000) :
  DSem Tryz.prog .p ⟨dst,.makeSlice t l c,type,pos,after,guard⟩ F H (.sl (List.replicate m (.v z))) H:=by
 refine ⟨rfl,fun H'=>?_⟩
 intro ext w β ρ hI hext hκ hρ
 have h2:ρ l = .int kl n:=hρ l (by simp [Op.operands]) _ hl
 have h3:ρ c = .int kc n:=hρ c (by simp [Op.operands]) _ hc
 obtain ⟨i,i1,i2,i3,i4⟩:=ty_info he
 rw [hz] at i2
 rw [hs] at i3
 have hu:Tryz.prog.underlying t=some (.slice e):=by rw [ty_und ht,hd]
 have hbm:i.bytes*m≤1000*1000000:=Nat.mul_le_mul (by omega) hk
 have hq0:(i.bytes:Int)*n≤281474976710656:=by
  rw [hm,←Int.natCast_mul];generalize i.bytes*m=q at hbm ⊢;omega
 have hr:=run_make (P:=Tryz.prog) w t e i z hu i1 i2 kl kc n n (by omega) (Int.le_refl _) hq0 (by omega)
 have h4:(execOp ρ ⟨dst,.makeSlice t l c,type,pos,after,guard⟩).run Tryz.prog w = .ok (.value (.slice (some ⟨w.heap.size,0,none⟩) m m)) (World.push w (.cells (madeCells z.cells m) e)):=by
  simp only [execOp,Sem.run_bind,h2,h3,hr,Result.andThen_ok,Sem.run_pure]
  rw [hm,i3,Nat.mul_one]
  rfl
 rw [h4]
 refine ⟨_,_,β,⟨rfl,rfl⟩,⟨some ⟨w.heap.size,0,none⟩,m,1,by rw [List.length_replicate],by rw [List.length_replicate];exact Nat.le_refl _,fun _=>⟨w.heap.size,0,rfl,?_,by show w.heap.size < (World.push w _).heap.size;rw [push_size];omega⟩,?_⟩,hI.push _,Step.push w β _⟩
 ·rintro (h|h)
  ·exact absurd (hext _ h) (by omega)
  ·exact absurd (hI.sep _ h).2 (by omega)
 ·refine RelR.of_get fun q a ha=>?_
  have hq:q < m:=by simpa using (List.getElem?_eq_some_iff.1 ha).1
  rw [List.getElem?_replicate,if_pos hq] at ha
  injection ha with ha
  subst ha
  refine ⟨z,rfl,by rw [hzc];rfl,fun p hp=>?_⟩
  have hp0:p=0:=by omega
  subst hp0
  simp only [Nat.zero_add,Nat.mul_one,Nat.add_zero]
  show (World.push w _).cell? ⟨w.heap.size,0+q,none⟩=_
  rw [Nat.zero_add]
  simp only [World.cell?,push_top]
  rw [hzc]
  show (madeCells #[z] m)[q]? = _
  rw [made_get _ _ _ hq]
  rfl
theorem mnew_ok (n:Nat) (h1:1≤n) (h2:n≤160):ACalls Tryz.prog 42 [iv (n:Int)] [] (one (.tup [encMem ⟨List.replicate n 0,List.replicate n 0⟩,iv 0]) []):=by
 have f1:decide ((n:Int) < 1)=false:=decide_eq_false (by omega)
 have f2:decide ((n:Int) > 160)=false:=decide_eq_false (by omega)
 unfold encMem mCells ivs
 refine jC Tryz.func42 Tryz.ntmps42 (fun w0 β0 ext hβ=>?_)
 repeat (first|refine jS ?_|refine jD ?_|refine jB ?_)
 rw [f1]
 repeat (first|refine jS ?_|refine jD ?_|refine jB ?_)
 rw [f2]
 repeat (first|refine jS ?_|refine jB ?_)
 refine jdrawPT [(0,.p),(1,.p),(2,.p),(3,.p),(4,.p),(5,.m),(6,.p)] rfl (by kernel_rfl) ?_
 repeat (first|refine jS ?_|refine jD ?_|refine jB ?_)
 refine jo rfl rfl (make_pub n rfl rfl rfl rfl rfl rfl rfl rfl rfl (by decide) (by omega)) rfl rfl ?_
 repeat (first|refine jS ?_|refine jD ?_|refine jB ?_)
 refine jo rfl rfl (make_pub n rfl rfl rfl rfl rfl rfl rfl rfl rfl (by decide) (by omega)) rfl rfl ?_
 repeat (first|refine jS ?_|refine jD ?_|refine jB ?_)
 rw [List.map_replicate]
 exact jR
end Go.AL
end
section
set_option maxRecDepth 100000
namespace Go.AL
open Go Go.Proofs
attribute [local irreducible] J
end Go.AL
end
section
set_option maxRecDepth 100000
namespace Go.AL
open Go Go.Proofs
section
variable {ts:List Int} {w:Wd} {ls:Nat→Nat × Nat} {c:Nat} {lk ind:Int} {k:Nat}
end
end Go.AL
end
section
set_option maxRecDepth 100000
namespace Go.AL
open Go Go.Proofs
theorem act0_eq {w:Wd} (hw:WdR w) {k:Nat} (hk:k < w.thr.length):actW w ⟨0,k⟩=cond (canW w k) (doW w k,true) (w,false):=by
 show cond (decide ((stepW w k).2=0)) ((stepW w k).1,true) (w,false)=_
 unfold stepW
 rw [wRight_iff.2 hw,show inT w (k:Int)=true from inn_iff.2 ⟨by omega,by omega⟩,Int.toNat_natCast]
 cases canW w k<;>rfl
theorem act1_eq {w:Wd} (hw:WdR w) {k:Nat} (hk:k < w.thr.length):actW w ⟨1,k⟩=match bufAt w.tso k with
  | []=>(w,false)
  | p::r=>(flushD w k p r,true):=by
 show cond (decide ((flushW w k).2=0)) ((flushW w k).1,true) (w,false)=_
 unfold flushW
 rw [wRight_iff.2 hw,show inT w (k:Int)=true from inn_iff.2 ⟨by omega,by omega⟩,Int.toNat_natCast]
 cases bufAt w.tso k<;>rfl
section
variable {ts:List Int}
end
end Go.AL
end
section
set_option maxRecDepth 100000
namespace Go.AL
open Go Go.Proofs
attribute [local irreducible] J
def nxQ (n:Nat) (base:Int) (q:Nat):Int:=if q=n∧0 < q then 0 else base+3*(q:Int)
theorem layP_arg {m:Mem} {a base:Int} {l:List Pr} (h:(mRight m&&prsOk l)=false):layP m a base l=(mem0,1):=by unfold layP;rw [h];rfl
theorem layP_rng {m:Mem} {a base:Int} {l:List Pr} (h:(mRight m&&prsOk l)=true) (h1:rngBad m.words.length a base (3*l.length)=true):layP m a base l=(mem0,3):=by unfold layP;rw [h,h1];rfl
theorem layP_one {m:Mem} {a base:Int} {l:List Pr} (h:(mRight m&&prsOk l)=true) (h1:rngBad m.words.length a base (3*l.length)=false) (h2:(lay1 m a).2≠0):layP m a base l=(mem0,(lay1 m a).2):=by unfold layP;rw [h,h1,decide_eq_false h2];rfl
theorem layP_two {m:Mem} {a base:Int} {l:List Pr} (h:(mRight m&&prsOk l)=true) (h1:rngBad m.words.length a base (3*l.length)=false) (h2:(lay1 m a).2=0) (h3:(lay2 m a base (3*l.length)).2≠0):layP m a base l=(mem0,(lay2 m a base (3*l.length)).2):=by
 unfold layP;rw [h,h1,decide_eq_true h2,decide_eq_false h3];rfl
theorem layP_fine {m:Mem} {a base:Int} {l:List Pr} (h:(mRight m&&prsOk l)=true) (h1:rngBad m.words.length a base (3*l.length)=false) (h2:(lay1 m a).2=0) (h3:(lay2 m a base (3*l.length)).2=0):layP m a base l=(chM (lay2 m a base (3*l.length)).1 a.toNat base.toNat l,0):=by
 unfold layP;rw [h,h1,decide_eq_true h2,decide_eq_true h3];rfl
theorem clay_ok (m:Mem) (a base:Int) (l:List Pr) (hw:m.words.length≤1000000) (ht:m.tags.length≤1000000) (hl:l.length≤1000000):ACalls Tryz.prog 43 [encMem m,iv a,iv base,encPs l] [] (one (.tup [encMem (layP m a base l).1,iv (layP m a base l).2]) []):=by
 have h1:=mem_right m hw ht
 have h2:=may_ok l hl
 have hn:IntKind.i64.wrap (3*(((l.map encP).length:Nat):Int))=((3*l.length:Nat):Int):=by rw [List.length_map,wrap_id (by omega) (by omega)];omega
 cases hR:mRight m with
 | false =>
  rw [layP_arg (by rw [hR];rfl)]
  rw [hR] at h1
  unfold encMem mCells ivs encPs at *
  refine jC Tryz.func43 Tryz.ntmps43 (fun w0 β0 ext hβ=>?_)
  repeat (first|refine jS ?_|refine jD ?_|refine jB ?_|refine jV h1 ?_)
  exact jR
 | true =>
  cases hP:prsOk l with
  | false =>
   rw [layP_arg (by rw [hR,hP];rfl)]
   rw [hR] at h1
   rw [hP] at h2
   unfold encMem mCells ivs encPs at *
   refine jC Tryz.func43 Tryz.ntmps43 (fun w0 β0 ext hβ=>?_)
   repeat (first|refine jS ?_|refine jD ?_|refine jB ?_|refine jV h1 ?_|refine jV h2 ?_)
   exact jR
  | true =>
   have hb:(mRight m&&prsOk l)=true:=by rw [hR,hP];rfl
   have hp12:l.length≤12:=by
    unfold prsOk at hP
    rw [Bool.and_eq_true] at hP
    exact of_decide_eq_true hP.2
   obtain ⟨s1,s2,s3,s4⟩:=(mRight_iff m).1 hR
   have h3:=mark_ok m a 1 1 hR (.inl rfl)
   rw [hR] at h1
   rw [hP] at h2
   have hL:(((m.words.map iv).length:Nat):Int)=(m.words.length:Int):=by rw [List.length_map]
   have hx:∀ {p:Prop} [Decidable p],p→decide p=true:=fun h=>decide_eq_true h
   have hf:∀ {p:Prop} [Decidable p],¬p→decide p=false:=fun h=>decide_eq_false h
   have hsub:1≤base→base≤m.words.length→IntKind.i64.wrap ((((m.words.map iv).length:Nat):Int)-base)=(m.words.length:Int)-base:=fun b1 b2=>by rw [hL,wrap_id (by omega) (by omega)]
   have hone:(lay1 m a)=mMark m a 1 1:=rfl
   have htwo:lay2 m a base (3*l.length)=cond (decide (0 < 3*l.length)) (mMark (lay1 m a).1 base (3*l.length:Nat) 1) (lay1 m a):=rfl
   unfold encPs at *
   unfold encMem mCells ivs at *
   cases hrb:rngBad m.words.length a base (3*l.length) with
   | true =>
    rw [layP_rng hb hrb]
    refine jC Tryz.func43 Tryz.ntmps43 (fun w0 β0 ext hβ=>?_)
    repeat (first|refine jS ?_|refine jD ?_|refine jB ?_|refine jV h1 ?_|refine jV h2 ?_)
    rw [hn]
    by_cases c1:a < 0
    ·rw [show decide (a < 0)=true from hx c1]
     repeat (first|refine jS ?_|refine jD ?_|refine jB ?_)
     exact jR
    rw [show decide (a < 0)=false from hf c1]
    repeat (first|refine jS ?_|refine jD ?_|refine jB ?_)
    rw [hL]
    by_cases c2:a≥m.words.length
    ·rw [show decide (a≥(m.words.length:Int))=true from hx c2]
     repeat (first|refine jS ?_|refine jD ?_|refine jB ?_)
     exact jR
    rw [show decide (a≥(m.words.length:Int))=false from hf c2]
    unfold rngBad at hrb
    rw [hf c1,hf c2] at hrb
    simp only [Bool.false_or,Bool.and_eq_true,decide_eq_true_eq,Bool.or_eq_true] at hrb
    repeat (first|refine jS ?_|refine jD ?_|refine jB ?_)
    rw [show decide (((3*l.length:Nat):Int) > 0)=true from hx (by omega)]
    repeat (first|refine jS ?_|refine jD ?_|refine jB ?_)
    by_cases c3:base < 1
    ·rw [show decide (base < 1)=true from hx c3]
     repeat (first|refine jS ?_|refine jD ?_|refine jB ?_)
     exact jR
    rw [show decide (base < 1)=false from hf c3]
    repeat (first|refine jS ?_|refine jD ?_|refine jB ?_)
    rw [hL]
    by_cases c4:base > m.words.length
    ·rw [show decide (base > (m.words.length:Int))=true from hx c4]
     repeat (first|refine jS ?_|refine jD ?_|refine jB ?_)
     exact jR
    rw [show decide (base > (m.words.length:Int))=false from hf c4]
    repeat (first|refine jS ?_|refine jD ?_|refine jB ?_)
    rw [hsub (by omega) (by omega)]
    rw [show decide (((3*l.length:Nat):Int) > (m.words.length:Int)-base)=true from hx (by omega)]
    repeat (first|refine jS ?_|refine jD ?_|refine jB ?_)
    exact jR
   | false =>
    refine jC Tryz.func43 Tryz.ntmps43 (fun w0 β0 ext hβ=>?_)
    iterate 16 refine jS ?_
    rw [hn]
    have hrb':=hrb
    unfold rngBad at hrb'
    simp only [Bool.or_eq_false_iff,Bool.and_eq_false_iff,decide_eq_false_iff_not] at hrb'
    obtain ⟨c1,c2,c3⟩:=hrb'
    refine jmid [1,2,3,4,8,10] [iv a,iv base,.sl (l.map encP),.ptr 0 0,.ptr 1 0,iv ((3*l.length:Nat):Int)] [.box 26 [.sl (m.words.map iv),.sl (m.tags.map iv)],.box 26 [.slf [],.slf []]] ?_ ?_
    ·repeat (first|refine jS ?_|refine jD ?_|refine jB ?_|refine jV h1 ?_|refine jV h2 ?_)
     rw [show decide (a < 0)=false from hf c1]
     repeat (first|refine jS ?_|refine jD ?_|refine jB ?_)
     rw [hL]
     rw [show decide (a≥(m.words.length:Int))=false from hf c2]
     repeat (first|refine jS ?_|refine jD ?_|refine jB ?_)
     by_cases hn0:0 < 3*l.length
     ·rw [show decide (((3*l.length:Nat):Int) > 0)=true from hx (by omega)]
      repeat (first|refine jS ?_|refine jD ?_|refine jB ?_)
      rw [show decide (base < 1)=false from hf (by omega)]
      repeat (first|refine jS ?_|refine jD ?_|refine jB ?_)
      rw [hL]
      rw [show decide (base > (m.words.length:Int))=false from hf (by omega)]
      repeat (first|refine jS ?_|refine jD ?_|refine jB ?_)
      rw [hsub (by omega) (by omega)]
      rw [show decide (((3*l.length:Nat):Int) > (m.words.length:Int)-base)=false from hf (by omega)]
      repeat (first|refine jS ?_|refine jD ?_|refine jB ?_)
      exact jmeet rfl rfl
     ·rw [show decide (((3*l.length:Nat):Int) > 0)=false from hf (by omega)]
      repeat (first|refine jS ?_|refine jD ?_|refine jB ?_)
      exact jmeet rfl rfl
    ·have h4:=mark_ok (lay1 m a).1 base ((3*l.length:Nat):Int) 1
     unfold encMem mCells ivs at h4
     have hR1:=mMark_right (m:=m) (k:=a) (n:=1) (tag:=1) hR (.inl rfl)
     rw [←hone] at h3 hR1
     have htwoA:0 < 3*l.length→lay2 m a base (3*l.length)=mMark (lay1 m a).1 base ((3*l.length:Nat):Int) 1:=fun h=>by rw [htwo,hx h];rfl
     have htwoB:¬0 < 3*l.length→lay2 m a base (3*l.length)=lay1 m a:=fun h=>by rw [htwo,hf h];rfl
     have hlay:=laid_ok (m:=m) (a:=a) (base:=base) (n:=3*l.length) hR
     iterate 4 (first|refine jS ?_|refine jB ?_)
     refine jV h3 ?_
     iterate 8 (first|refine jS ?_|refine jB ?_)
     obtain ⟨mb,hmb⟩:∃ mb:Mem × Int,mb=cond (decide ((lay1 m a).2=0)) (lay2 m a base (3*l.length)) (lay1 m a):=⟨_,rfl⟩
     refine jmid [1,2,3,4,8,10,11] [iv a,iv base,.sl (l.map encP),.ptr 0 0,.ptr 1 0,iv ((3*l.length:Nat):Int),iv mb.2] [.box 26 [.sl (mb.1.words.map iv),.sl (mb.1.tags.map iv)],.box 26 [.slf [],.slf []]] ?_ ?_
     ·by_cases hn0:0 < 3*l.length
      ·have hh:=htwoA hn0
       by_cases e1:(lay1 m a).2=0
       ·have h4:=mark_ok (lay1 m a).1 base ((3*l.length:Nat):Int) 1 (hR1 e1).1 (.inl rfl)
        unfold encMem mCells ivs at h4
        rw [hx e1] at hmb
        rw [hh] at hmb
        rw [e1]
        subst hmb
        generalize mMark (lay1 m a).1 base ((3*l.length:Nat):Int) 1=r2 at *
        generalize (lay1 m a).1=r1 at *
        simp only [cond_true]
        repeat (first|refine jS ?_|refine jD ?_|refine jB ?_)
        rw [show decide (((3*l.length:Nat):Int) > 0)=true from hx (by omega)]
        repeat (first|refine jS ?_|refine jD ?_|refine jB ?_|refine jV h4 ?_)
        exact jmeet rfl rfl
       ·rw [hf e1] at hmb
        subst hmb
        have hne:((lay1 m a).2 == 0)=false:=by rw [beq_eq_false_iff_ne];exact e1
        simp only [cond_false]
        generalize (lay1 m a).2=e at *
        generalize (lay1 m a).1=r1 at *
        repeat (first|refine jS ?_|refine jD ?_|refine jB ?_)
        rw [show decide (((3*l.length:Nat):Int) > 0)=true from hx (by omega)]
        repeat (first|refine jS ?_|refine jD ?_|refine jB ?_)
        rw [hne]
        repeat (first|refine jS ?_|refine jD ?_|refine jB ?_)
        exact jmeet rfl rfl
      ·have hh:=htwoB hn0
       rw [hh] at hmb
       have hmb2:mb=lay1 m a:=by rw [hmb];cases decide ((lay1 m a).2=0)<;>rfl
       subst hmb2
       repeat (first|refine jS ?_|refine jD ?_|refine jB ?_)
       rw [show decide (((3*l.length:Nat):Int) > 0)=false from hf (by omega)]
       repeat (first|refine jS ?_|refine jD ?_|refine jB ?_)
       exact jmeet rfl rfl
     ·by_cases e2:mb.2=0
      ·have e1:(lay1 m a).2=0:=by
        by_cases e1:(lay1 m a).2=0
        ·exact e1
        ·rw [hf e1] at hmb;rw [hmb] at e2;exact absurd e2 e1
       rw [hx e1] at hmb
       simp only [cond_true] at hmb
       rw [hmb] at e2
       rw [layP_fine hb hrb e1 e2]
       obtain ⟨k1,k2,K⟩:=hlay e1 e2
       rw [←hmb] at K e2 ⊢
       clear hmb h1 h2 h3 hR1 htwoA htwoB hlay htwo hone
       rw [e2]
       generalize mb.1=x at *
       have hbb:0 < l.length→1≤base∧base≤160:=fun h=>by
        obtain ⟨q1,q2,q3⟩:1≤base∧base≤m.words.length∧True:=⟨by omega,by omega,trivial⟩
        omega
       repeat (first|refine jS ?_|refine jD ?_|refine jB ?_)
       refine jad 12 3 1 rfl rfl rfl rfl ?_
       refine jfin 3 [1,2,3,4,8,10,12,13,91,92,93] true rfl rfl rfl (jbl hβ) ?_
       refine jloop 3 (fun q:Nat=>q≤l.length) [1,2,3,4,8,10,12,13,91,92,93] (fun q=>[iv a,iv base,.sl (l.map encP),.ptr 0 0,.ptr 1 0,iv ((3*l.length:Nat):Int),.arr 2 (q+1),iv (nxQ l.length base q),.sl (l.map encP),.v (.int .i64 ((l.map encP).length:Int)),.v (.int .i64 (q:Int))])
        (fun q=>[.box 26 [.sl (x.words.map iv),.sl (x.tags.map iv)],.box 26 [.sl [],.sl []],.arr (q+1) 3 1 ((chW l.length base (l.take q) 0).map iv)]) (fun q=>l.length-q) 0 (jbl hβ) (Nat.zero_le _) (by
         have:nxQ l.length base 0=base:=by unfold nxQ;rw [if_neg (by omega)];omega
         show some _=some _
         rw [this];rfl) rfl (fun q hq=>?_)
       repeat (first|refine jS ?_|refine jD ?_|refine jB ?_)
       refine jc rfl rfl rfl (fun h=>?_) (fun h=>?_)
       ·have h:=of_decide_eq_true h
        rw [List.length_map] at h
        have hq2:q < l.length:=by omega
        obtain ⟨b1,b2⟩:=hbb (by omega)
        have hidx:IntKind.i64.wrap ((q:Int)+1)=((q+1:Nat):Int):=idx_next hq2 (by omega)
        have hnq:nxQ l.length base q=base+3*(q:Int):=by unfold nxQ;rw [if_neg (by omega)]
        have hnx:IntKind.i64.wrap (base+3*(q:Int)+3)=base+3*((q:Int)+1):=by rw [wrap_id (by omega) (by omega)];omega
        have hl1:IntKind.i64.wrap ((((l.map encP).length:Nat):Int)-1)=(l.length:Int)-1:=by rw [List.length_map,wrap_id (by omega) (by omega)]
        have hcs:=chW_succ l.length base l hq2
        have hcl:(chW l.length base (l.take q) 0).length=3*q:=by rw [chW_len,List.length_take];omega
        rw [hnq]
        repeat (first|refine jS ?_|refine jD ?_|refine jB ?_|refine jI (Int.natCast_nonneg q) h ?_)
        rw [hnx,hl1]
        generalize at' l (q:Int)=pr at *
        obtain ⟨pk,pv⟩:=pr
        simp only at hcs
        by_cases hlast:q+1=l.length
        ·have hcx:chNx l.length base q=0:=by unfold chNx;rw [if_pos hlast]
         have hnn:nxQ l.length base (q+1)=0:=by unfold nxQ;rw [if_pos ⟨hlast,by omega⟩]
         rw [show ((q:Int) == (l.length:Int)-1)=true from by simp;omega]
         rw [hcx] at hcs
         repeat (first|refine jS ?_|refine jD ?_|refine jB ?_)
         refine jo rfl rfl (append_encs (enc:=iv) (l:=chW l.length base (l.take q) 0) (l2:=[pk,pv,0]) rfl rfl rfl rfl rfl rfl rfl rfl rfl (fun x=>⟨rfl,rfl⟩) rfl (by rw [hcl];show 3*q+3≤_;omega) rfl rfl) rfl rfl ?_
         rw [←hcs]
         repeat (first|refine jS ?_|refine jD ?_|refine jB ?_)
         refine jnext (q+1) hq2 (by omega) rfl rfl rfl ?_ rfl
         rw [hidx,hnn];rfl
        ·have hcx:chNx l.length base q=base+3*((q:Int)+1):=by unfold chNx;rw [if_neg hlast]
         have hnn:nxQ l.length base (q+1)=base+3*((q:Int)+1):=by unfold nxQ;rw [if_neg (by omega)];omega
         rw [show ((q:Int) == (l.length:Int)-1)=false from by simp;omega]
         rw [hcx] at hcs
         repeat (first|refine jS ?_|refine jD ?_|refine jB ?_)
         refine jo rfl rfl (append_encs (enc:=iv) (l:=chW l.length base (l.take q) 0) (l2:=[pk,pv,base+3*((q:Int)+1)]) rfl rfl rfl rfl rfl rfl rfl rfl rfl (fun x=>⟨rfl,rfl⟩) rfl (by rw [hcl];show 3*q+3≤_;omega) rfl rfl) rfl rfl ?_
         rw [←hcs]
         repeat (first|refine jS ?_|refine jD ?_|refine jB ?_)
         refine jnext (q+1) hq2 (by omega) rfl rfl rfl ?_ rfl
         rw [hidx,hnn];rfl
       ·have h:=of_decide_eq_false h
        rw [List.length_map] at h
        have:q=l.length:=by omega
        subst this
        rw [List.take_length]
        have hWl:=chW_len l.length base l 0
        unfold chM
        have hbn:0 < l.length→base=((base.toNat:Nat):Int):=fun h=>by have:=hbb h;omega
        have hch:chW l.length base l 0=chW l.length ((base.toNat:Nat):Int) l 0:=by
         rcases Nat.eq_zero_or_pos l.length with h0|h0
         ·have:l=[]:=List.length_eq_zero_iff.1 h0
          subst this;rfl
         ·rw [←hbn h0]
        rw [←hch]
        obtain ⟨b,hbe⟩:∃ b:Nat,b=base.toNat:=⟨_,rfl⟩
        obtain ⟨an,rfl⟩:∃ an:Nat,a=an:=⟨a.toNat,by omega⟩
        rw [show ((an:Int)).toNat=an from by omega] at K ⊢
        rw [←hbe] at K hbn ⊢
        clear hch hbe
        generalize hWW:chW l.length base l 0=W at *
        refine jpub 12 rfl rfl rfl rfl ?_
        obtain ⟨K1,K2,K3,K4,K5,K6,K7,K8⟩:=K
        obtain ⟨xw,xt⟩:=x
        simp only at K1 K2 K3 K4 K5 K6 K7
        repeat (first|refine jS ?_|refine jD ?_|refine jB ?_)
        refine jloopI (fun q:Nat=>q≤W.length∧mRight ⟨stL xw b (W.take q),xt⟩=true) [1,2,4,8,10,114,115,116] (fun q=>[iv (an:Int),iv base,.ptr 0 0,.ptr 1 0,iv ((3*l.length:Nat):Int),.sl (W.map iv),.v (.int .i64 ((W.map iv).length:Int)),.v (.int .i64 (q:Int))])
         (fun q=>[.box 26 [.sl ((stL xw b (W.take q)).map iv),.sl (xt.map iv)],.box 26 [.sl [],.sl []],.dead (l.length+2)]) (fun q=>W.length-q) 0 ⟨Nat.zero_le _,K1⟩ rfl rfl (fun q hq=>?_)
        obtain ⟨hq,hqr⟩:=hq
        repeat (first|refine jS ?_|refine jD ?_|refine jB ?_)
        refine jc rfl rfl rfl (fun h=>?_) (fun h=>?_)
        ·have h:=of_decide_eq_true h
         rw [List.length_map] at h
         have hq2:q < W.length:=by omega
         have hl0:0 < l.length:=by omega
         have hidx:IntKind.i64.wrap ((q:Int)+1)=((q+1:Nat):Int):=idx_next hq2 (by omega)
         have hbw:=hbb hl0
         have hbq:IntKind.i64.wrap (base+(q:Int))=((b+q:Nat):Int):=by rw [wrap_id (by omega) (by omega)];have:=hbn hl0;omega
         have hsn:=stL_snoc (W.take q) xw b (at' W (q:Int))
         rw [List.length_take,Nat.min_eq_left (Nat.le_of_lt hq2)] at hsn
         have htk:W.take (q+1)=W.take q++[at' W (q:Int)]:=by rw [List.take_succ_eq_append_getElem hq2,at_nat W q hq2]
         have hlen:(stL xw b (W.take q)).length=xw.length:=stL_len _ _ _
         have hlt:b+q < (stL xw b (W.take q)).length:=by rw [hlen];rcases K6 with h|h<;>omega
         have hlive:=K7 (b+q) (by omega) (by omega)
         have hst:=store_ok ⟨stL xw b (W.take q),xt⟩ ((b+q:Nat):Int) (at' W (q:Int)) hqr
         have hsl:=store_live (m:=⟨stL xw b (W.take q),xt⟩) (q:=b+q) (v:=at' W (q:Int)) hlt hlive
         have hr2:=(mStore_right (k:=((b+q:Nat):Int)) (v:=at' W (q:Int)) hqr (use_live hlt hlive)).1
         rw [hsl] at hst hr2
         simp only at hst hr2
         rw [←hsn,←htk] at hst hr2
         unfold encMem mCells ivs at hst
         repeat (first|refine jS ?_|refine jD ?_|refine jB ?_|refine jI (Int.natCast_nonneg q) h ?_)
         rw [hbq]
         repeat (first|refine jS ?_|refine jD ?_|refine jB ?_|refine jV hst ?_)
         refine jnextI (q+1) ⟨hq2,hr2⟩ ?_ rfl (by omega)
         show some _=some _
         rw [hidx]
        ·have h:=of_decide_eq_false h
         rw [List.length_map] at h
         have:q=W.length:=by omega
         subst this
         rw [List.take_length] at hqr ⊢
         have hlen:(stL xw b W).length=xw.length:=stL_len _ _ _
         have hst:=fun v=>store_ok ⟨stL xw b W,xt⟩ (an:Int) v hqr
         have hsl:=fun v=>store_live (m:=⟨stL xw b W,xt⟩) (q:=an) (v:=v) (by rw [hlen];exact K4) K5
         unfold encMem mCells ivs at hst
         rcases Nat.eq_zero_or_pos l.length with h0|h0
         ·have hl0:l=[]:=List.length_eq_zero_iff.1 h0
          have hst:=hst 0
          rw [hsl] at hst
          rw [if_pos hl0]
          repeat (first|refine jS ?_|refine jD ?_|refine jB ?_)
          rw [show (((3*l.length:Nat):Int) == 0)=true from by rw [h0];rfl]
          repeat (first|refine jS ?_|refine jD ?_|refine jB ?_|refine jV hst ?_)
          exact jR
         ·have hl0:l≠[]:=List.length_pos_iff.1 h0
          have hst:=hst base
          rw [hsl] at hst
          rw [if_neg hl0,←hbn h0]
          repeat (first|refine jS ?_|refine jD ?_|refine jB ?_)
          rw [show (((3*l.length:Nat):Int) == 0)=false from by rw [beq_eq_false_iff_ne];omega]
          repeat (first|refine jS ?_|refine jD ?_|refine jB ?_|refine jV hst ?_)
          exact jR
      ·have hl:layP m a base l=(mem0,mb.2):=by
        by_cases e1:(lay1 m a).2=0
        ·rw [hx e1] at hmb
         simp only [cond_true] at hmb
         rw [hmb] at e2 ⊢
         exact layP_two hb hrb e1 e2
        ·rw [hf e1] at hmb
         simp only [cond_false] at hmb
         rw [hmb]
         exact layP_one hb hrb e1
       rw [hl]
       have hne:(mb.2 != 0)=true:=by rw [bne_iff_ne];exact e2
       generalize mb.2=e at *
       repeat (first|refine jS ?_|refine jD ?_|refine jB ?_)
       rw [hne]
       repeat (first|refine jS ?_|refine jD ?_|refine jB ?_)
       exact jR
end Go.AL
end
section
set_option maxRecDepth 100000
namespace Go.AL
open Go Go.Proofs
attribute [local irreducible] J
end Go.AL
end
