/-
  Part 2 of the proof texts: the program logic over the model, then the contracts of the functions that the laws reach. No conditions.
-/
import Derived.Test.YteefnlbapebamaaGreatDoorF1
set_option linter.unusedVariables false
set_option linter.unusedSimpArgs false
section
namespace Go.AL
open Go
section
variable {P:Program}
def xsOf:AVal→Option (List AVal)
 | .sl xs=>some xs
 | .slf xs=>some xs
 | .slz xs=>some xs
 | _=>none
theorem sl_open {c:Ctx} {a:AVal} {xs:List AVal} (ha:xsOf a=some xs) {u:Value} (h:Rel c a u) :
  ∃ A m es,u = .slice A xs.length m∧xs.length≤m∧(∀ ys,a = .slf ys→m=xs.length)∧(xs≠[]→baseOk c A)∧RelR { c with β:=[] } es (rdA c.w A) 0 xs:=by
 cases a<;>simp only [xsOf] at ha<;>try (cases ha;done)
 ·injection ha with ha;subst ha
  obtain ⟨A,m,es,h1,h2,h3,h4⟩:=h
  exact ⟨A,m,es,h1,h2,(by intro ys e;cases e),h3,h4⟩
 ·injection ha with ha;subst ha
  obtain ⟨A,es,h1,h3,h4⟩:=h
  exact ⟨A,_,es,h1,Nat.le_refl _,fun ys _=>rfl,h3,h4⟩
 ·injection ha with ha;subst ha
  obtain ⟨A,m,es,h1,h2,h3,h4,_⟩:=h
  exact ⟨A,m,es,h1,h2,(by intro ys e;cases e),h3,h4⟩
theorem addr_add (b o n:Nat):(⟨b,o,none⟩:Addr).add n=⟨b,o+n,none⟩:=by
 unfold Addr.add;split
 ·rename_i h;rw [h];rfl
 ·rfl
theorem index_sl [T:TyTab P] {dst:Option Tmp} {t:TypeId} {x i:Operand} {type:TypeId} {pos:String} {after:Array Edge} {guard:Option (Nat × Bool)} {F:Fr} {H:List AObj} {a:AVal} {xs:List AVal} {y:AVal} {k:IntKind} {n:Int} {e:TypeId} {r r':TyRow}
  (hx:ev F x=some a) (ha:xsOf a=some xs) (hi:ev F i=some (.v (.int k n))) (ht:tfind T.tab t=some r') (hd:r'.d = .slice e) (he:tfind T.tab e=some r) (hl:y.cells.length=r.size) (hf:y.flat=true)
  (h0:0≤n) (hy:xs[n.toNat]? = some y):DSem P .p ⟨dst,.indexAddr t x i,type,pos,after,guard⟩ F H (.pp y.cells 0) H:=by
 refine ⟨rfl,fun H'=>?_⟩
 intro ext w β ρ hI hext hκ hρ
 obtain ⟨A,m,es,hu,hm,_,hA,hr⟩:=sl_open ha (hρ x (by simp [Op.operands]) _ hx)
 have hn:ρ i = .int k n:=hρ i (by simp [Op.operands]) _ hi
 have hne:xs≠[]:=fun e=>by subst e;simp at hy
 obtain ⟨b,o,rfl,hb,hs⟩:=hA hne
 obtain ⟨u,h1,h2,h3⟩:=hr.get hy
 have hlt:n.toNat < xs.length:=(List.getElem?_eq_some_iff.1 hy).1
 obtain ⟨hc,_⟩:=h1.cells hf
 have hcl:=hc.length
 simp only [Array.length_toList] at hcl
 have hes:es=r.size:=by omega
 have h4:(execOp ρ ⟨dst,.indexAddr t x i,type,pos,after,guard⟩).run P w = .ok (.value (.pointer (some ⟨b,o+n.toNat*r.size,none⟩))) w:=by
  have hcond:0≤n∧n < (xs.length:Int):=⟨h0,by omega⟩
  simp only [execOp,Instr.indexAt,Sem.run_bind,hn,hu,asIntOf,Sem.run_pure,Result.andThen_ok,run_und ht,hd,if_pos hcond,run_size he,addr_add]
 rw [h4]
 refine came_same hI ⟨b,o+n.toNat*r.size,u.cells.toList,rfl,hb,hs,hc,fun q hq=>?_⟩
 have:=h3 q (by simp at hq;omega)
 simp only [Nat.zero_add,rdA] at this
 rw [hes] at this
 rw [Nat.add_assoc,this]
 simp
theorem index_arr [T:TyTab P] {dst:Option Tmp} {t:TypeId} {x i:Operand} {type:TypeId} {pos:String} {after:Array Edge} {guard:Option (Nat × Bool)} {F:Fr} {H:List AObj} {j off:Nat} {k:IntKind} {n:Int} {e:TypeId} {len:Nat} {r r':TyRow}
  (hx:ev F x=some (.ptr j off)) (hi:ev F i=some (.v (.int k n))) (ht:tfind T.tab t=some r') (hd:r'.d = .array len e) (he:tfind T.tab e=some r)
  (h0:0≤n) (hn:n < len):DSem P .p ⟨dst,.indexAddr t x i,type,pos,after,guard⟩ F H (.ptr j (off+n.toNat*r.size)) H:=by
 refine ⟨rfl,fun H'=>?_⟩
 intro ext w β ρ hI hext hκ hρ
 obtain ⟨e',b,h1,h2,h3,hu⟩:=hρ x (by simp [Op.operands]) _ hx
 have hni:ρ i = .int k n:=hρ i (by simp [Op.operands]) _ hi
 have h4:(execOp ρ ⟨dst,.indexAddr t x i,type,pos,after,guard⟩).run P w = .ok (.value (.pointer (some ⟨b,off+n.toNat*r.size,none⟩))) w:=by
  have hcond:0≤n∧n < (len:Int):=⟨h0,hn⟩
  simp only [execOp,Instr.indexAt,Sem.run_bind,hni,hu,asIntOf,Sem.run_pure,Result.andThen_ok,run_und ht,hd,Instr.sureAddr,if_pos hcond,run_size he,addr_add]
 rw [h4]
 exact came_same hI ⟨e',b,h1,h2,h3,rfl⟩
theorem index_agg [T:TyTab P] {dst:Option Tmp} {t:TypeId} {x i:Operand} {type:TypeId} {pos:String} {after:Array Edge} {guard:Option (Nat × Bool)} {F:Fr} {H:List AObj} {cs:List AVal} {k:IntKind} {n:Int} {e:TypeId} {len:Nat} {r r':TyRow} {v:AVal}
  (hx:ev F x=some (.agg cs)) (hi:ev F i=some (.v (.int k n))) (ht:tfind T.tab t=some r') (hd:r'.d = .array len e) (he:tfind T.tab e=some r)
  (h0:0≤n) (hn:n < len) (hv:takeA r cs (n.toNat*r.size)=some v):DSem P .p ⟨dst,.index t x i,type,pos,after,guard⟩ F H v H:=by
 refine ⟨rfl,fun H'=>?_⟩
 intro ext w β ρ hI hext hκ hρ
 obtain ⟨a,hu,hr⟩:=hρ x (by simp [Op.operands]) _ hx
 have hni:ρ i = .int k n:=hρ i (by simp [Op.operands]) _ hi
 obtain ⟨u,h1,h2⟩:=takeA_part (P:=P) he hr hv w
 have h4:(execOp ρ ⟨dst,.index t x i,type,pos,after,guard⟩).run P w = .ok (.value u) w:=by
  have hcond:0≤n∧n < (len:Int):=⟨h0,hn⟩
  simp only [execOp,Instr.index,Sem.run_bind,hni,hu,asIntOf,Sem.run_pure,Result.andThen_ok,run_und ht,hd,if_pos hcond,run_size he,h1]
 rw [h4]
 exact came_same hI h2
theorem index_str [T:TyTab P] {dst:Option Tmp} {t:TypeId} {x i:Operand} {type:TypeId} {pos:String} {after:Array Edge} {guard:Option (Nat × Bool)} {F:Fr} {H:List AObj} {s:ByteArray} {k:IntKind} {n:Int} {r':TyRow} {c:UInt8}
  (hx:ev F x=some (.v (.string s))) (hi:ev F i=some (.v (.int k n))) (ht:tfind T.tab t=some r') (hd:r'.d = .string)
  (h0:0≤n) (hc:s[n.toNat]? = some c):DSem P .p ⟨dst,.index t x i,type,pos,after,guard⟩ F H (.v (.int .u8 c.toNat)) H:=by
 refine ⟨rfl,fun H'=>?_⟩
 intro ext w β ρ hI hext hκ hρ
 have hu:ρ x = .string s:=hρ x (by simp [Op.operands]) _ hx
 have hni:ρ i = .int k n:=hρ i (by simp [Op.operands]) _ hi
 have h4:(execOp ρ ⟨dst,.index t x i,type,pos,after,guard⟩).run P w = .ok (.value (.int .u8 c.toNat)) w:=by
  simp only [execOp,Instr.index,Sem.run_bind,hni,hu,asIntOf,Sem.run_pure,Result.andThen_ok,run_und ht,hd,if_pos h0,hc]
 rw [h4]
 exact came_same hI rfl
def ElemsOk (s:Nat) (xs:List AVal):Prop:=∀ y∈xs,y.cells.length=s∧y.flat=true
theorem elems_map {α:Type} {s:Nat} {f:α→AVal} (l:List α) (h:∀ x,(f x).cells.length=s∧(f x).flat=true):ElemsOk s (l.map f):=by
 intro y hy
 obtain ⟨x,_,rfl⟩:=List.mem_map.1 hy
 exact h x
theorem rows_size {c:Ctx} {es s:Nat} {rd:Nat→Option Value} {xs:List AVal} (hr:RelR c es rd 0 xs) (hne:xs≠[]) (ho:ElemsOk s xs):es=s:=by
 cases xs with
 | nil=>exact absurd rfl hne
 | cons x xs =>
  obtain ⟨⟨u,h1,h2,_⟩,_⟩:=hr
  obtain ⟨h3,h4⟩:=ho x (List.mem_cons_self ..)
  have:=(h1.cells h4).1.length
  simp only [Array.length_toList] at this
  omega
theorem rows_cut {c:Ctx} {es:Nat} {rd:Nat→Option Value} {xs:List AVal} (hr:RelR c es rd 0 xs) (l n:Nat):RelR c es (fun i=>rd (l*es+i)) 0 ((xs.drop l).take n):=by
 refine RelR.of_get fun i a ha=>?_
 rw [List.getElem?_take] at ha
 split at ha
 ·rw [List.getElem?_drop] at ha
  obtain ⟨u,h1,h2,h3⟩:=hr.get ha
  refine ⟨u,h1,h2,fun q hq=>?_⟩
  have:=h3 q hq
  simp only [Nat.zero_add] at this ⊢
  rw [←this]
  congr 1
  rw [Nat.add_mul];omega
 ·cases ha
theorem cut_rel {c:Ctx} {xs:List AVal} {A:Option Addr} {es m l h s:Nat} (hlh:l≤h) (hh:h≤xs.length) (hA:xs≠[]→baseOk c A) (hr:RelR { c with β:=[] } es (rdA c.w A) 0 xs) (ho:ElemsOk s xs) :
  ((xs.drop l).take (h-l)≠[]→baseOk c (if m=l then A else A.map (·.add (l*s))))∧RelR { c with β:=[] } es (rdA c.w (A.map (·.add (l*s)))) 0 ((xs.drop l).take (h-l))∧((xs.drop l).take (h-l)).length=h-l:=by
 have hlen:((xs.drop l).take (h-l)).length=h-l:=by simp;omega
 by_cases hx:xs=[]
 ·subst hx
  simp at hh
  subst hh
  have:l=0:=by omega
  subst this
  exact ⟨fun h=>absurd rfl h,trivial,rfl⟩
 ·have hes:=rows_size hr hx ho
  subst hes
  obtain ⟨b,o,rfl,hb,hs⟩:=hA hx
  refine ⟨fun _=>?_,?_,hlen⟩
  ·split
   ·exact ⟨b,o,rfl,hb,hs⟩
   ·exact ⟨b,o+l*es,by simp [addr_add],hb,hs⟩
  ·have:=rows_cut hr l (h-l)
   have e:rdA c.w (Option.map (fun x:Addr=>x.add (l*es)) (some ⟨b,o,none⟩))=fun i=>rdA c.w (some ⟨b,o,none⟩) (l*es+i):=by
    funext i
    simp only [Option.map_some,addr_add,rdA,Nat.add_assoc]
   rw [e];exact this
theorem cut_sl [T:TyTab P] {dst:Option Tmp} {t:TypeId} {x:Operand} {lo hi:Option Operand} {type:TypeId} {pos:String} {after:Array Edge} {guard:Option (Nat × Bool)} {F:Fr} {H:List AObj} {a:AVal} {xs:List AVal} {e:TypeId} {r r':TyRow} {l h:Int}
  (hx:ev F x=some a) (ha:xsOf a=some xs) (hlo:match lo with|none=>l=0|some o=>∃ k,ev F o=some (.v (.int k l))) (hhi:match hi with|none=>h=xs.length|some o=>∃ k,ev F o=some (.v (.int k h)))
  (ht:tfind T.tab t=some r') (hd:r'.d = .slice e) (he:tfind T.tab e=some r) (ho:ElemsOk r.size xs) (h0:0≤l) (hlh:l≤h) (hh:h≤xs.length) :
  DSem P .p ⟨dst,.slice t x lo hi none,type,pos,after,guard⟩ F H (.sl ((xs.drop l.toNat).take (h.toNat-l.toNat))) H:=by
 refine ⟨rfl,fun H'=>?_⟩
 intro ext w β ρ hI hext hκ hρ
 obtain ⟨A,m,es,hu,hm,_,hA,hr⟩:=sl_open ha (hρ x (by simp [Op.operands]) _ hx)
 obtain ⟨g1,g2,g3⟩:=cut_rel (l:=l.toNat) (h:=h.toNat) (m:=m) (by omega) (by omega) hA hr ho
 have hb:(Instr.sliceBounds true xs.length m (lo.map ρ) (hi.map ρ) none).run P w = .ok (l.toNat,h.toNat,m) w:=by
  cases hi with
  | none =>
   simp only at hhi
   subst hhi
   cases lo with
   | none=>simp only at hlo;subst hlo;simp [Instr.sliceBounds]
   | some o =>
    obtain ⟨k,hk⟩:=hlo
    have:ρ o = .int k l:=hρ o (by simp [Op.operands]) _ hk
    simp [Instr.sliceBounds,Instr.sliceBound,this,asIntOf,h0,hlh]
  | some o' =>
   obtain ⟨k',hk'⟩:=hhi
   have e':ρ o' = .int k' h:=hρ o' (by simp [Op.operands]) _ hk'
   have c1:0≤h∧h≤(m:Int):=⟨by omega,by omega⟩
   cases lo with
   | none=>simp only at hlo;subst hlo;simp [Instr.sliceBounds,Instr.sliceBound,e',asIntOf,c1]
   | some o =>
    obtain ⟨k,hk⟩:=hlo
    have e1:ρ o = .int k l:=hρ o (by simp [Op.operands]) _ hk
    have c2:0≤l∧l≤(h.toNat:Int):=⟨h0,by omega⟩
    have c3:l≤max h 0:=by omega
    simp [Instr.sliceBounds,Instr.sliceBound,e',e1,asIntOf,c1,h0,c3]
 have h4:(execOp ρ ⟨dst,.slice t x lo hi none,type,pos,after,guard⟩).run P w = .ok (.value (.slice (if m=l.toNat then A else A.map (·.add (l.toNat*r.size))) (h.toNat-l.toNat) (m-l.toNat))) w:=by
  simp only [execOp,Instr.sliceAt,Sem.run_bind,hu,run_und ht,hd,Result.andThen_ok,Instr.slice,hb,run_size he,Sem.run_pure,Option.map_none]
 rw [h4]
 refine came_same hI ⟨_,_,es,by rw [g3],by rw [g3];omega,g1,?_⟩
 by_cases hml:m=l.toNat
 ·rw [if_pos hml]
  have:(xs.drop l.toNat).take (h.toNat-l.toNat)=[]:=List.length_eq_zero_iff.1 (by rw [g3];omega)
  rw [this];trivial
 ·rw [if_neg hml];exact g2
theorem cut_full [T:TyTab P] {dst:Option Tmp} {t:TypeId} {x:Operand} {lo:Option Operand} {hi mx:Operand} {type:TypeId} {pos:String} {after:Array Edge} {guard:Option (Nat × Bool)} {F:Fr} {H:List AObj} {a:AVal} {xs:List AVal} {e:TypeId} {r r':TyRow} {l h:Int} {k1 k2:IntKind}
  (hx:ev F x=some a) (ha:xsOf a=some xs) (hlo:match lo with|none=>l=0|some o=>∃ k,ev F o=some (.v (.int k l))) (hhi:ev F hi=some (.v (.int k1 h))) (hmx:ev F mx=some (.v (.int k2 h)))
  (ht:tfind T.tab t=some r') (hd:r'.d = .slice e) (he:tfind T.tab e=some r) (ho:ElemsOk r.size xs) (h0:0≤l) (hlh:l≤h) (hh:h≤xs.length) :
  DSem P .p ⟨dst,.slice t x lo (some hi) (some mx),type,pos,after,guard⟩ F H (.slf ((xs.drop l.toNat).take (h.toNat-l.toNat))) H:=by
 refine ⟨rfl,fun H'=>?_⟩
 intro ext w β ρ hI hext hκ hρ
 obtain ⟨A,m,es,hu,hm,_,hA,hr⟩:=sl_open ha (hρ x (by simp [Op.operands]) _ hx)
 obtain ⟨g1,g2,g3⟩:=cut_rel (l:=l.toNat) (h:=h.toNat) (m:=h.toNat) (by omega) (by omega) hA hr ho
 have hb:(Instr.sliceBounds true xs.length m (lo.map ρ) (some (ρ hi)) (some (ρ mx))).run P w = .ok (l.toNat,h.toNat,h.toNat) w:=by
  have e1:ρ hi = .int k1 h:=hρ hi (by simp [Op.operands]) _ hhi
  have e2:ρ mx = .int k2 h:=hρ mx (by simp [Op.operands]) _ hmx
  have c1:0≤h∧h≤(m:Int):=⟨by omega,by omega⟩
  have c1':h≤max h 0:=by omega
  cases lo with
  | none=>simp only at hlo;subst hlo;simp [Instr.sliceBounds,Instr.sliceBound,e1,e2,asIntOf,c1,c1']
  | some o =>
   obtain ⟨k,hk⟩:=hlo
   have e3:ρ o = .int k l:=hρ o (by simp [Op.operands]) _ hk
   have c3:l≤max h 0:=by omega
   simp [Instr.sliceBounds,Instr.sliceBound,e1,e2,e3,asIntOf,c1,c1',h0,c3]
 have h4:(execOp ρ ⟨dst,.slice t x lo (some hi) (some mx),type,pos,after,guard⟩).run P w = .ok (.value (.slice (if h.toNat=l.toNat then A else A.map (·.add (l.toNat*r.size))) (h.toNat-l.toNat) (h.toNat-l.toNat))) w:=by
  simp only [execOp,Instr.sliceAt,Sem.run_bind,hu,run_und ht,hd,Result.andThen_ok,Instr.slice,hb,run_size he,Sem.run_pure,Option.map_some]
 rw [h4]
 refine came_same hI ⟨_,es,by rw [g3],g1,?_⟩
 by_cases hml:h.toNat=l.toNat
 ·rw [if_pos hml]
  have:(xs.drop l.toNat).take (h.toNat-l.toNat)=[]:=List.length_eq_zero_iff.1 (by rw [g3];omega)
  rw [this];trivial
 ·rw [if_neg hml];exact g2
theorem cut_str [T:TyTab P] {dst:Option Tmp} {t:TypeId} {x:Operand} {lo hi:Option Operand} {type:TypeId} {pos:String} {after:Array Edge} {guard:Option (Nat × Bool)} {F:Fr} {H:List AObj} {s:ByteArray} {r':TyRow} {l h:Int}
  (hx:ev F x=some (.v (.string s))) (hlo:match lo with|none=>l=0|some o=>∃ k,ev F o=some (.v (.int k l))) (hhi:match hi with|none=>h=s.size|some o=>∃ k,ev F o=some (.v (.int k h)))
  (ht:tfind T.tab t=some r') (hd:r'.d = .string) (h0:0≤l) (hlh:l≤h) (hh:h≤s.size) :
  DSem P .p ⟨dst,.slice t x lo hi none,type,pos,after,guard⟩ F H (.v (.string (s.extract l.toNat h.toNat))) H:=by
 refine ⟨rfl,fun H'=>?_⟩
 intro ext w β ρ hI hext hκ hρ
 have hu:ρ x = .string s:=hρ x (by simp [Op.operands]) _ hx
 have hb:(Instr.sliceBounds false s.size s.size (lo.map ρ) (hi.map ρ) none).run P w = .ok (l.toNat,h.toNat,s.size) w:=by
  cases hi with
  | none =>
   simp only at hhi
   subst hhi
   cases lo with
   | none=>simp only at hlo;subst hlo;simp [Instr.sliceBounds]
   | some o =>
    obtain ⟨k,hk⟩:=hlo
    have:ρ o = .int k l:=hρ o (by simp [Op.operands]) _ hk
    simp [Instr.sliceBounds,Instr.sliceBound,this,asIntOf,h0,hlh]
  | some o' =>
   obtain ⟨k',hk'⟩:=hhi
   have e':ρ o' = .int k' h:=hρ o' (by simp [Op.operands]) _ hk'
   have c1:0≤h∧h≤(s.size:Int):=⟨by omega,by omega⟩
   cases lo with
   | none=>simp only at hlo;subst hlo;simp [Instr.sliceBounds,Instr.sliceBound,e',asIntOf,c1]
   | some o =>
    obtain ⟨k,hk⟩:=hlo
    have e1:ρ o = .int k l:=hρ o (by simp [Op.operands]) _ hk
    have c3:l≤max h 0:=by omega
    simp [Instr.sliceBounds,Instr.sliceBound,e',e1,asIntOf,c1,h0,c3]
 have h4:(execOp ρ ⟨dst,.slice t x lo hi none,type,pos,after,guard⟩).run P w = .ok (.value (.string (s.extract l.toNat h.toNat))) w:=by
  simp only [execOp,Instr.sliceAt,Sem.run_bind,hu,run_und ht,hd,Result.andThen_ok,Instr.slice,Sem.run_pure,Option.map_none]
  simp [hb]
 rw [h4]
 exact came_same hI rfl
end
end Go.AL
namespace Go.AL
open Go
section
variable {P:Program}
theorem rows_cells {c:Ctx} {s:Nat} {rd:Nat→Option Value}:∀ (xs:List AVal) (k:Nat),RelR c s rd k xs→ElemsOk s xs →
  ∃ us:List Value,us.length=xs.length*s∧(∀ j u,us[j]? = some u→rd (k*s+j)=some u)∧(∀ u∈us,u.oneCell'=true)∧∀ k',RelR c s (fun i=>if k'*s≤i then us[i-k'*s]? else none) k' xs
 | [],k,_,_=>⟨[],by simp,fun j u h=>by simp at h,fun u h=>by simp at h,fun _=>trivial⟩
 | x::xs,k,⟨⟨u,h1,h2,h3⟩,hr⟩,ho=>by
  obtain ⟨us,g1,g2,g3,g4⟩:=rows_cells xs (k+1) hr (fun y hy=>ho y (List.mem_cons_of_mem _ hy))
  obtain ⟨o1,o2⟩:=ho x (List.mem_cons_self ..)
  obtain ⟨q1,q2⟩:=h1.cells o2
  have hul:u.cells.toList.length=s:=by simpa using h2
  refine ⟨u.cells.toList++us,?_,fun j v hj=>?_,fun v hv=>?_,fun k'=>⟨⟨u,h1,h2,fun i hi=>?_⟩,?_⟩⟩
  ·simp only [List.length_append,List.length_cons,hul,g1,Nat.add_mul];omega
  ·by_cases hlt:j < s
   ·rw [List.getElem?_append_left (by omega)] at hj
    rw [h3 j hlt];simpa using hj
   ·rw [List.getElem?_append_right (by omega),hul] at hj
    have:=g2 _ _ hj
    rwa [show (k+1)*s+(j-s)=k*s+j by rw [Nat.add_mul];omega] at this
  ·rcases List.mem_append.1 hv with h|h
   ·exact q2 v h
   ·exact g3 v h
  ·simp only [Nat.le_add_right,if_true,Nat.add_sub_cancel_left]
   rw [List.getElem?_append_left (by omega)]
   simp
  ·have:=g4 (k'+1)
   refine RelR.of_get fun i a ha=>?_
   obtain ⟨v,v1,v2,v3⟩:=this.get ha
   refine ⟨v,v1,v2,fun q hq=>?_⟩
   have h5:=v3 q hq
   have e1:(k'+1+i)*s+q=k'*s+s+i*s+q:=by simp only [Nat.add_mul,Nat.one_mul]
   have e2:(k'+1)*s=k'*s+s:=by simp only [Nat.add_mul,Nat.one_mul]
   simp only [e1,e2] at h5 ⊢
   rw [if_pos (by omega)] at h5
   rw [if_pos (by omega),List.getElem?_append_right (by omega),hul]
   rw [←h5]
   congr 1
   omega
theorem rows_append {c:Ctx} {s:Nat} {xs ys:List AVal} {us vs:List Value} {rd:Nat→Option Value} (hx:RelR c s (fun i=>us[i]?) 0 xs) (hy:RelR c s (fun i=>vs[i]?) 0 ys) (hl:us.length=xs.length*s)
  (hrd:∀ i,i < (xs.length+ys.length)*s→rd i=(us++vs)[i]?):RelR c s rd 0 (xs++ys):=by
 refine RelR.of_get fun i a ha=>?_
 simp only [Nat.zero_add]
 have hlt:i < xs.length+ys.length:=by simpa using (List.getElem?_eq_some_iff.1 ha).1
 have hb:∀ q,q < s→i*s+q < (xs.length+ys.length)*s:=fun q hq=>by
  have:(i+1)*s≤(xs.length+ys.length)*s:=Nat.mul_le_mul_right _ hlt
  rw [Nat.add_mul,Nat.one_mul] at this;omega
 by_cases h:i < xs.length
 ·rw [List.getElem?_append_left h] at ha
  obtain ⟨u,h1,h2,h3⟩:=hx.get ha
  refine ⟨u,h1,h2,fun q hq=>?_⟩
  have:=h3 q hq
  simp only [Nat.zero_add] at this
  have hb2:i*s+q < xs.length*s:=by
   have:(i+1)*s≤xs.length*s:=Nat.mul_le_mul_right _ h
   rw [Nat.add_mul,Nat.one_mul] at this;omega
  rw [hrd _ (hb q hq),List.getElem?_append_left (by omega)]
  exact this
 ·rw [List.getElem?_append_right (by omega)] at ha
  obtain ⟨u,h1,h2,h3⟩:=hy.get ha
  refine ⟨u,h1,h2,fun q hq=>?_⟩
  have:=h3 q hq
  simp only [Nat.zero_add] at this
  have hge:xs.length*s≤i*s:=Nat.mul_le_mul_right _ (by omega)
  rw [hrd _ (hb q hq),List.getElem?_append_right (by omega),hl]
  rw [show i*s+q-xs.length*s=(i-xs.length)*s+q by rw [Nat.sub_mul];omega]
  exact this
inductive SrcOf (H:List AObj):AVal→List AVal→Prop
 | sl {a:AVal} {xs:List AVal}:xsOf a=some xs→SrcOf H a xs
 | arr {j g:Nat} {t:TypeId} {es:Nat} {xs:List AVal}:H[j]? = some (.arr g t es xs)→SrcOf H (.arr j g) xs
theorem src_cells {ext:Nat→Prop} {w:World} {H:List AObj} {β:List Ent} (hI:Inv ext w H β) {a:AVal} {ys:List AVal} {s:Nat} {u:Value} (hs:SrcOf H a ys) (ho:ElemsOk s ys) (hr:Rel (ctx ext w β) a u) :
  ∃ (A:Option Addr) (m:Nat) (us:List Value),u = .slice A ys.length m∧us.length=ys.length*s∧(∀ v∈us,v.oneCell'=true)∧RelR { (ctx ext w β) with β:=[] } s (fun i=>us[i]?) 0 ys ∧
   (ys=[]∨∃ b o,A=some ⟨b,o,none⟩∧∀ j v,us[j]? = some v→w.cell? ⟨b,o+j,none⟩=some v):=by
 by_cases hne:ys=[]
 ·subst hne
  have:∃ A m,u = .slice A 0 m:=by
   cases hs with
   | sl hx=>obtain ⟨A,m,es,h1,_⟩:=sl_open hx hr;exact ⟨A,m,h1⟩
   | arr hj =>
    obtain ⟨_,e,he,hg,hu⟩:=hr
    obtain ⟨h1,_,_,hl,h3,h4⟩:=hI.obj _ _ e hj he
    obtain ⟨h5,h6⟩:=hu h1
    cases hb:e.blk with
    | none=>rw [hb] at h6;obtain ⟨_,A,rfl⟩:=h6;exact ⟨A,0,rfl⟩
    | some b=>rw [hb] at h6;simp at hl;rw [hl] at h6;exact ⟨_,_,h6⟩
  obtain ⟨A,m,rfl⟩:=this
  exact ⟨A,m,[],rfl,by simp,fun v h=>by simp at h,trivial,.inl rfl⟩
 ·cases hs with
  | sl hx =>
   obtain ⟨A,m,es,h1,h2,_,hA,hrr⟩:=sl_open hx hr
   have:=rows_size hrr hne ho
   subst this
   obtain ⟨b,o,rfl,hb,hsz⟩:=hA hne
   obtain ⟨us,g1,g2,g3,g4⟩:=rows_cells ys 0 hrr ho
   refine ⟨_,m,us,h1,g1,g3,?_,.inr ⟨b,o,rfl,fun j v hj=>?_⟩⟩
   ·have:=g4 0
    simpa using this
   ·have:=g2 j v hj
    simpa [rdA] using this
  | arr hj =>
   obtain ⟨_,e,he,hg,hu⟩:=hr
   obtain ⟨h1,_,hes,hl,h3,h4⟩:=hI.obj _ _ e hj he
   obtain ⟨h5,h6⟩:=hu h1
   cases hb:e.blk with
   | none=>rw [hb] at h4;exfalso;exact hne (List.length_eq_zero_iff.1 (by rw [h4] at h3;omega))
   | some b =>
    rw [hb] at h6 h4
    obtain ⟨cs,k1,k2,k3⟩:=h4
    have:=rows_size k3 hne ho
    subst this
    obtain ⟨us,g1,g2,g3,g4⟩:=rows_cells ys 0 k3 ho
    refine ⟨_,e.cap,us,by rw [h6,hl],g1,g3,?_,.inr ⟨b,0,rfl,fun j v hj=>?_⟩⟩
    ·have:=g4 0
     simpa using this
    ·have:=g2 j v hj
     simp only [Nat.zero_mul,Nat.zero_add] at this ⊢
     simpa [World.cell?,k1] using this
def zerosOk (r:TyRow):Bool:=Nat.beq r.z.cells.size r.size
theorem drew_same (w:World):SameMem w w.drew:=⟨rfl,rfl,rfl,rfl⟩
theorem newArr {ext:Nat→Prop} {w w':World} {H:List AObj} {β:List Ent} (hI:Inv ext w H β) (hext:∀ b,ext b→b < w.heap.size) (hs:SameMem w w') {e:TypeId} {s cap:Nat} {xs:List AVal} {us:Array Value}
  (hsz:us.size=cap*s) (hcap:xs.length≤cap) (hr:RelR { (ctx ext w β) with β:=[] } s (fun i=>us[i]?) 0 xs) :
  Came ext w β (one (.arr H.length 1) (H++[.arr 1 e s xs])) .ret (.slice (some ⟨w.heap.size,0,none⟩) xs.length cap) (World.push w' (.cells us e)):=by
 have hh:=hs.heap
 have hI':=hI.same hs
 have hst0:=hs.step β
 have hst1:Step w' β (World.push w' (.cells us e)) (β++[⟨some w'.heap.size,1,s,cap,xs.length⟩]):=Step.alloc w' β _ _ (.inl rfl)
 have hst:=hst0.trans hst1
 refine ⟨_,_,_,⟨rfl,rfl⟩,?_,hI'.alloc (by rw [hh];exact hext) _ _ _ (.inl rfl) ?_,hst⟩
 ·refine ⟨rfl,⟨some w'.heap.size,1,s,cap,xs.length⟩,by rw [←hI.len];simp,Nat.le_refl _,fun _=>⟨hcap,by rw [hh]⟩⟩
 ·exact ⟨rfl,by decide,rfl,rfl,hcap,us,push_top,hsz,hr.le (hst.le (ext:=ext)).bare _ _ _ _⟩
theorem relR_rd {c:Ctx} {s:Nat} {rd rd':Nat→Option Value} {xs:List AVal} (h:RelR c s rd 0 xs) (he:∀ i,i < xs.length*s→rd' i=rd i):RelR c s rd' 0 xs:=by
 refine RelR.of_get fun i a ha=>?_
 obtain ⟨u,h1,h2,h3⟩:=h.get ha
 refine ⟨u,h1,h2,fun q hq=>?_⟩
 rw [he]
 ·exact h3 q hq
 ·have:(i+1)*s≤xs.length*s:=Nat.mul_le_mul_right _ (List.getElem?_eq_some_iff.1 ha).1
  rw [Nat.add_mul,Nat.one_mul] at this;rw [Nat.zero_add];omega
theorem elems_nil {s:Nat}:ElemsOk s []:=fun y h=>by simp at h
theorem src_kit [T:TyTab P] {w:World} {s:Nat} {tx:TypeId} {ex:TypeId} {rx:TyRow} (ht:tfind T.tab tx=some rx) (hd:rx.d = .slice ex) {A:Option Addr} {n m:Nat} {us:List Value}
  (hl:us.length=n*s) (h1:∀ v∈us,v.oneCell'=true) (hc:n=0∨∃ b o,A=some ⟨b,o,none⟩∧∀ j v,us[j]? = some v→w.cell? ⟨b,o+j,none⟩=some v) :
  Src P s tx (.slice A n m) n us w:=by
 have hk:P.underlying tx=some (.slice ex):=by rw [ty_und ht,hd]
 have hz:n=0→us=[]:=fun h=>List.length_eq_zero_iff.1 (by rw [hl,h,Nat.zero_mul])
 have key:∀ w':World,w'.heap=w.heap→(Builtin.firstCells s n (.slice A n m)).run P w' = .ok us.toArray w':=by
  intro w' hw
  rcases hc with h|⟨b,o,rfl,h⟩
  ·have hu:=hz h
   subst h;subst hu
   cases A with
   | none=>rfl
   | some a=>simp [Builtin.firstCells,loadCells,loadCellsFrom]
  ·refine run_firstCells_some w' s n _ n m us hl fun j v hj=>?_
   rw [addr_add]
   have:=h j v hj
   simpa [World.cell?,hw] using this
 exact ⟨.inl ⟨ex,hk⟩,fun _=>rfl,key w rfl,key w.drew rfl,hl,h1⟩
theorem append_new [T:TyTab P] {dst:Option Tmp} {t tx:TypeId} {x y:Operand} {type:TypeId} {pos:String} {after:Array Edge} {guard:Option (Nat × Bool)} {F:Fr} {H:List AObj} {xs ys:List AVal} {b:AVal} {e ex:TypeId} {r r' rx:TyRow}
  (hx:ev F x=some (.slf xs)) (hy:ev F y=some b) (hb:SrcOf H b ys) (ht:tfind T.tab t=some r') (hd:r'.d = .slice e) (he:tfind T.tab e=some r) (htx:tfind T.tab tx=some rx) (hdx:rx.d = .slice ex)
  (ho:ElemsOk r.size xs) (hoy:ElemsOk r.size ys) (hz:zerosOk r=true) (hne:ys≠[]) (h47:(xs.length+ys.length)*r.bytes≤140737488355328) (h63:xs.length+ys.length≤9223372036854775807) :
  DSem P .x ⟨dst,.call { callee:=.builtin .append,args:=#[x,y],argTypes:=#[t,tx] },type,pos,after,guard⟩ F H (.arr H.length 1) (H++[.arr 1 e r.size (xs++ys)]):=by
 refine ⟨fun j t cs hj=>by rw [List.getElem?_append_left (List.getElem?_eq_some_iff.1 hj).1];exact hj,?_⟩
 intro ext w β ρ hI hext hκ hρ
 obtain ⟨A,es,hu,hA,hr⟩:=hρ x (by simp [Op.operands,Call.operands]) _ hx
 have hr0:Rel (ctx ext w β) (.slf xs) (ρ x):=⟨A,es,hu,hA,hr⟩
 obtain ⟨A1,m1,us,u1,u2,u3,u4,u5⟩:=src_cells hI (.sl rfl:SrcOf H (.slf xs) xs) ho hr0
 rw [hu] at u1
 injection u1 with ha1 ha2 ha3
 subst ha1
 obtain ⟨B,m,vs,v1,v2,v3,v4,v5⟩:=src_cells hI hb hoy (hρ y (by simp [Op.operands,Call.operands]) _ hy)
 obtain ⟨i,i1,i2,i3,i4⟩:=ty_info he
 have hlen:0 < ys.length:=by cases ys with|nil=>exact absurd rfl hne|cons=>simp
 have hsrc:Src P i.size tx (.slice B ys.length m) ys.length vs w:=by
  rw [i3]
  refine src_kit htx hdx v2 v3 ?_
  rcases v5 with h|h
  ·exact .inl (by rw [h];rfl)
  ·exact .inr h
 have hold:(Builtin.firstCells i.size xs.length (.slice A xs.length xs.length)).run P w.drew = .ok us.toArray w.drew:=by
  have:=(src_kit (P:=P) (w:=w) (s:=r.size) ht hd (A:=A) (n:=xs.length) (m:=xs.length) u2 u3 (by
   rcases u5 with h|h
   ·exact .inl (by rw [h];rfl)
   ·exact .inr h)).cellsD
  rw [i3];exact this
 have hg:=run_append_grow_src (P:=P) w t tx type e i r.z (by rw [ty_und ht,hd]) i1 i2 A xs.length xs.length us hold _ ys.length vs hsrc (by omega) (by omega)
  (growslice_fits (by omega) (by rw [i4];exact h47))
 generalize hcap:grownCap w (xs.length+ys.length) xs.length e=cap at hg
 have hcap2:xs.length+ys.length≤cap:=by rw [←hcap];simp only [grownCap,Question.cut];omega
 have h4:(execOp ρ ⟨dst,.call { callee:=.builtin .append,args:=#[x,y],argTypes:=#[t,tx] },type,pos,after,guard⟩).run P w =
   .ok (.value (.slice (some ⟨w.heap.size,0,none⟩) (xs++ys).length cap)) (World.push w.drew (.cells ((us++vs).toArray++Builtin.zeroCells r.z.cells (cap-(xs.length+ys.length))) e)):=by
  simp only [execOp,resolve,invoke,builtin,Sem.run_bind,Sem.run_pure,Result.andThen_ok,List.map_toArray,List.map_cons,List.map_nil,hu,v1,hg,List.length_append]
  rfl
 rw [h4]
 have hz':=Nat.eq_of_beq_eq_true hz
 have hlen2:(us++vs).length=(xs.length+ys.length)*r.size:=by rw [List.length_append,u2,v2,Nat.add_mul]
 refine newArr hI hext (drew_same w) ?_ (by simpa using hcap2) ?_
 ·simp only [Array.size_append,List.size_toArray,size_zeroCells,hlen2,hz']
  rw [←Nat.add_mul];congr 1;omega
 ·refine rows_append u4 v4 u2 fun i hi=>?_
  rw [Array.getElem?_append_left (by simpa [hlen2] using hi)]
  simp
theorem append_nil [T:TyTab P] {dst:Option Tmp} {t tx:TypeId} {x y:Operand} {type:TypeId} {pos:String} {after:Array Edge} {guard:Option (Nat × Bool)} {F:Fr} {H:List AObj} {xs:List AVal} {b:AVal} {e ex:TypeId} {r r' rx:TyRow}
  (hx:ev F x=some (.slf xs)) (hy:ev F y=some b) (hb:SrcOf H b []) (ht:tfind T.tab t=some r') (hd:r'.d = .slice e) (he:tfind T.tab e=some r) (htx:tfind T.tab tx=some rx) (hdx:rx.d = .slice ex) :
  OpSem P ⟨dst,.call { callee:=.builtin .append,args:=#[x,y],argTypes:=#[t,tx] },type,pos,after,guard⟩ F H (one (.slf xs) H):=by
 intro ext w β ρ hI hext hκ hρ
 have hr0:=hρ x (by simp [Op.operands,Call.operands]) _ hx
 obtain ⟨A,es,hu,hA,hr⟩:=id hr0
 obtain ⟨B,m,vs,v1,v2,v3,v4,v5⟩:=src_cells (s:=r.size) hI hb elems_nil (hρ y (by simp [Op.operands,Call.operands]) _ hy)
 obtain ⟨i,i1,i2,i3,i4⟩:=ty_info he
 have hvs:vs=[]:=List.length_eq_zero_iff.1 (by simpa using v2)
 subst hvs
 have hk:P.underlying tx=some (.slice ex):=by rw [ty_und htx,hdx]
 have hf:(Builtin.firstCells r.size 0 (.slice B 0 m)).run P w = .ok #[] w:=by
  cases B with
  | none=>rfl
  | some a=>simp [Builtin.firstCells,loadCells,loadCellsFrom]
 have h4:(execOp ρ ⟨dst,.call { callee:=.builtin .append,args:=#[x,y],argTypes:=#[t,tx] },type,pos,after,guard⟩).run P w = .ok (.value (.slice A xs.length xs.length)) w:=by
  have hu':P.underlying t=some (.slice e):=by rw [ty_und ht,hd]
  simp only [execOp,resolve,invoke,builtin,Sem.run_bind,Sem.run_pure,Result.andThen_ok,List.map_toArray,List.map_cons,List.map_nil,hu,v1]
  cases A<;>simp [Builtin.append_,run_underlying hu',run_underlying hk,sizeOf,typeInfo,i1,i3,Builtin.lenOf,hf,storeCells]
 rw [h4]
 exact came_same hI (by rw [←hu];exact hr0)
theorem append_own [T:TyTab P] {dst:Option Tmp} {t tx:TypeId} {x y:Operand} {type:TypeId} {pos:String} {after:Array Edge} {guard:Option (Nat × Bool)} {F:Fr} {H:List AObj} {j g:Nat} {xs ys:List AVal} {b:AVal} {e ex:TypeId} {r r' rx:TyRow}
  (hx:ev F x=some (.arr j g)) (hj:H[j]? = some (.arr g e r.size xs)) (hy:ev F y=some b) (hb:SrcOf H b ys) (ht:tfind T.tab t=some r') (hd:r'.d = .slice e) (he:tfind T.tab e=some r) (htx:tfind T.tab tx=some rx) (hdx:rx.d = .slice ex)
  (ho:ElemsOk r.size xs) (hoy:ElemsOk r.size ys) (hz:zerosOk r=true) (h47:(xs.length+ys.length)*r.bytes≤140737488355328) (h63:xs.length+ys.length≤9223372036854775807) :
  DSem P .x ⟨dst,.call { callee:=.builtin .append,args:=#[x,y],argTypes:=#[t,tx] },type,pos,after,guard⟩ F H (.arr j (g+1)) (H.set j (.arr (g+1) e r.size (xs++ys))):=by
 refine ⟨fun i t cs hi=>?_,?_⟩
 ·by_cases hij:i=j
  ·subst hij;rw [hj] at hi;cases hi
  ·rw [List.getElem?_set_ne (by omega)];exact hi
 intro ext w β ρ hI hext hκ hρ
 have hr0:=hρ x (by simp [Op.operands,Call.operands]) _ hx
 obtain ⟨A1,m1,us,u1,u2,u3,u4,u5⟩:=src_cells hI (.arr hj) ho hr0
 obtain ⟨_,ent,hent,_,hcond⟩:=id hr0
 obtain ⟨k1,k0,k2,k3,k4,k5⟩:=hI.obj _ _ ent hj hent
 obtain ⟨c1,c2⟩:=hcond k1
 obtain ⟨B,m,vs,v1,v2,v3,v4,v5⟩:=src_cells hI hb hoy (hρ y (by simp [Op.operands,Call.operands]) _ hy)
 obtain ⟨i,i1,i2,i3,i4⟩:=ty_info he
 have hu':P.underlying t=some (.slice e):=by rw [ty_und ht,hd]
 have hk:P.underlying tx=some (.slice ex):=by rw [ty_und htx,hdx]
 have hz':=Nat.eq_of_beq_eq_true hz
 have hlen2:(us++vs).length=(xs.length+ys.length)*r.size:=by rw [List.length_append,u2,v2,Nat.add_mul]
 have hsrc:Src P i.size tx (.slice B ys.length m) ys.length vs w:=by
  rw [i3]
  refine src_kit htx hdx v2 v3 ?_
  rcases v5 with h|h
  ·exact .inl (by rw [h];rfl)
  ·exact .inr h
 have hgen0:ent.gen≠0:=by omega
 -- the new entry,wherever it lies
 have fin:∀ (w1:World) (bo:Option Nat) (cap:Nat) (A:Option Addr),Step w β w1 (β.set j ⟨bo,g+1,r.size,cap,(xs++ys).length⟩) →
   (∀ c,c < w.heap.size→ent.blk≠some c→w1.heap[c]? = w.heap[c]?) →
   ((bo=some w.heap.size∧w.heap.size < w1.heap.size)∨bo=none∨bo=ent.blk)→(xs++ys).length≤cap →
   (match bo with|none=>(xs++ys).length=0∧cap=0|some b=>A=some ⟨b,0,none⟩∧∃ cs,w1.heap[b]? = some (.cells cs e (0,0))∧cs.size=cap*r.size∧RelR { (ctx ext w β) with β:=[] } r.size (fun i=>cs[i]?) 0 (xs++ys)) →
   Came ext w β (one (.arr j (g+1)) (H.set j (.arr (g+1) e r.size (xs++ys)))) .ret (.slice A (xs++ys).length cap) w1:=by
  intro w1 bo cap A hst hk' hbo hcap hm
  have hjlt:=(List.getElem?_eq_some_iff.1 hent).1
  refine ⟨_,_,_,⟨rfl,rfl⟩,?_,hI.set hext hent hst hk' hbo ?_,hst⟩
  ·refine ⟨rfl,⟨bo,g+1,r.size,cap,(xs++ys).length⟩,by rw [List.getElem?_set_self hjlt],Nat.le_refl _,fun _=>⟨hcap,?_⟩⟩
   cases bo with
   | none=>obtain ⟨h1,h2⟩:=hm;subst h2;exact ⟨h1,A,by rw [h1]⟩
   | some b=>obtain ⟨h1,_⟩:=hm;rw [h1]
  ·refine ⟨rfl,by omega,rfl,rfl,hcap,?_⟩
   cases bo with
   | none=>exact hm.2
   | some b=>obtain ⟨h1,cs,h2,h3,h4⟩:=hm;exact ⟨cs,h2,h3,h4.le (hst.le (ext:=ext)).bare _ _ _ _⟩
 have grow:∀ (A:Option Addr) (cap0:Nat),ρ x = .slice A xs.length cap0→cap0 < xs.length+ys.length →
   Upon P ext w β (one (.arr j (g+1)) (H.set j (.arr (g+1) e r.size (xs++ys)))) ((execOp ρ ⟨dst,.call { callee:=.builtin .append,args:=#[x,y],argTypes:=#[t,tx] },type,pos,after,guard⟩).run P w):=by
  intro A cap0 hu hlt
  have hAA:A1=A∧m1=cap0:=by rw [hu] at u1;injection u1 with e1 e2 e3;exact ⟨e1.symm,e3.symm⟩
  obtain ⟨rfl,rfl⟩:=hAA
  have hold:(Builtin.firstCells i.size xs.length (.slice A1 xs.length m1)).run P w.drew = .ok us.toArray w.drew:=by
   have:=(src_kit (P:=P) (w:=w) (s:=r.size) ht hd (A:=A1) (n:=xs.length) (m:=m1) u2 u3 (by
    rcases u5 with h|h
    ·exact .inl (by rw [h];rfl)
    ·exact .inr h)).cellsD
   rw [i3];exact this
  have hg:=run_append_grow_src (P:=P) w t tx type e i r.z hu' i1 i2 A1 xs.length m1 us hold _ ys.length vs hsrc (by omega) (by omega)
   (growslice_fits (by omega) (by rw [i4];exact h47))
  generalize hcap:grownCap w (xs.length+ys.length) m1 e=cap at hg
  have hcap2:xs.length+ys.length≤cap:=by rw [←hcap];simp only [grownCap,Question.cut];omega
  have h4:(execOp ρ ⟨dst,.call { callee:=.builtin .append,args:=#[x,y],argTypes:=#[t,tx] },type,pos,after,guard⟩).run P w =
    .ok (.value (.slice (some ⟨w.heap.size,0,none⟩) (xs++ys).length cap)) (World.push w.drew (.cells ((us++vs).toArray++Builtin.zeroCells r.z.cells (cap-(xs.length+ys.length))) e)):=by
   simp only [execOp,resolve,invoke,builtin,Sem.run_bind,Sem.run_pure,Result.andThen_ok,List.map_toArray,List.map_cons,List.map_nil,hu,v1,hg,List.length_append]
   rfl
  rw [h4]
  refine fin _ (some w.heap.size) cap _ ?_ ?_ (.inl ⟨rfl,?_⟩) (by simpa using hcap2) ⟨rfl,_,push_top,?_,?_⟩
  ·exact ((drew_same w).step β).trans (Step.move (w:=w.drew) _ hent hgen0 (by simp only;omega) (.inl rfl))
  ·intro c hc _;exact push_get (w:=w.drew) hc
  ·rw [push_size];show w.heap.size < w.heap.size+1;omega
  ·simp only [Array.size_append,List.size_toArray,size_zeroCells,hlen2,hz']
   rw [←Nat.add_mul];congr 1;omega
  ·refine rows_append u4 v4 u2 fun i hi=>?_
   rw [Array.getElem?_append_left (by simpa [hlen2] using hi)]
   simp
 cases hb':ent.blk with
 | none =>
  rw [hb'] at c2 k5
  obtain ⟨c3,A,hu⟩:=c2
  have hxs:xs=[]:=List.length_eq_zero_iff.1 (by omega)
  subst hxs
  by_cases hys:ys=[]
  ·subst hys
   have hvs:vs=[]:=List.length_eq_zero_iff.1 (by simpa using v2)
   subst hvs
   have hf:(Builtin.firstCells r.size 0 (.slice B 0 m)).run P w = .ok #[] w:=by
    cases B with
    | none=>rfl
    | some a=>simp [Builtin.firstCells,loadCells,loadCellsFrom]
   have h4:(execOp ρ ⟨dst,.call { callee:=.builtin .append,args:=#[x,y],argTypes:=#[t,tx] },type,pos,after,guard⟩).run P w = .ok (.value (.slice A 0 0)) w:=by
    simp only [execOp,resolve,invoke,builtin,Sem.run_bind,Sem.run_pure,Result.andThen_ok,List.map_toArray,List.map_cons,List.map_nil,hu,v1]
    cases A<;>simp [Builtin.append_,run_underlying hu',run_underlying hk,sizeOf,typeInfo,i1,i3,Builtin.lenOf,hf,storeCells]
   rw [h4]
   exact fin w none 0 A (Step.regen hent hgen0 (by simp only;omega) (.inl rfl)) (fun _ _ _=>rfl) (.inr (.inl rfl)) (Nat.le_refl _) ⟨rfl,rfl⟩
  ·have:0 < ys.length:=by cases ys with|nil=>exact absurd rfl hys|cons=>simp
   exact grow A 0 hu (by simpa using this)
 | some bk =>
  rw [hb'] at c2 k5
  rw [k3] at c2
  obtain ⟨cs,w1,w2,w3⟩:=k5
  by_cases hroom:xs.length+ys.length≤ent.cap
  ·have hmul:(xs.length+ys.length)*r.size≤ent.cap*r.size:=Nat.mul_le_mul_right _ hroom
   have hst:=run_storeCells_at P bk (xs.length*r.size) e vs 0 cs w w1 (by rw [v2,w2];rw [Nat.add_mul] at hmul;omega) v3
   simp only [Nat.add_zero] at hst
   generalize hcs:(cs.toList.take (xs.length*r.size)++vs++cs.toList.drop (xs.length*r.size+vs.length)).toArray=cs' at hst
   have h4:(execOp ρ ⟨dst,.call { callee:=.builtin .append,args:=#[x,y],argTypes:=#[t,tx] },type,pos,after,guard⟩).run P w =
     .ok (.value (.slice (some ⟨bk,0,none⟩) (xs++ys).length ent.cap)) (w.setRow bk cs'):=by
    simp only [execOp,resolve,invoke,builtin,Sem.run_bind,Sem.run_pure,Result.andThen_ok,List.map_toArray,List.map_cons,List.map_nil,c2,v1]
    simp only [Builtin.append_,run_underlying hu',run_underlying hk,sizeOf,typeInfo,i1,i3,hroom]
    have hc0:=hsrc.cells
    rw [i3] at hc0
    simp [run_underlying hu',run_underlying hk,i1,i3,Builtin.lenOf,hroom,hc0,addr_add,hst]
   rw [h4]
   refine fin _ (some bk) ent.cap _ ?_ ?_ (.inr (.inr hb'.symm)) (by simpa using hroom) ⟨rfl,cs',setRow_get w1,?_,?_⟩
   ·have s1:Step w β (w.setRow bk cs') β:=Step.write ⟨j,ent,hent,hb'⟩ (by simp) (fun c hc=>setRow_other w bk c cs' hc) rfl rfl rfl
    exact s1.trans (Step.regen hent hgen0 (by simp only;omega) (.inr hb'.symm))
   ·intro c _ hne;exact setRow_other w bk c cs' (fun h=>hne (by rw [h];exact hb'))
   ·rw [←hcs]
    simp only [List.size_toArray,List.length_append,List.length_take,List.length_drop,Array.length_toList,v2,w2]
    rw [Nat.add_mul] at hmul
    omega
   ·refine rows_append (us:=cs.toList.take (xs.length*r.size)) (vs:=vs) (relR_rd w3 fun i hi=>?_) v4 ?_ fun i hi=>?_
    ·show (cs.toList.take _)[i]? = _
     rw [List.getElem?_take,if_pos hi];simp
    ·have hcl:cs.toList.length=ent.cap*r.size:=by simpa using w2
     rw [List.length_take,hcl]
     have:xs.length*r.size≤ent.cap*r.size:=Nat.mul_le_mul_right _ (by omega)
     omega
    ·show cs'[i]? = _
     rw [←hcs]
     simp only [List.getElem?_toArray]
     rw [List.getElem?_append_left]
     simp only [List.length_append,List.length_take,Array.length_toList,v2,w2]
     have:xs.length*r.size≤ent.cap*r.size:=Nat.mul_le_mul_right _ (by omega)
     rw [Nat.add_mul] at hi
     omega
  ·exact grow _ _ c2 (by omega)
end
end Go.AL
namespace Go.AL
open Go
section
variable {P:Program}
def zeroA (r:TyRow):AVal:=cond (aggB r.d) (.agg (r.z.cells.toList.map constA)) (constA r.z)
theorem arr_open {ext:Nat→Prop} {w:World} {H:List AObj} {β:List Ent} (hI:Inv ext w H β) {j g:Nat} {t:TypeId} {es:Nat} {xs:List AVal} (hj:H[j]? = some (.arr g t es xs)) {u:Value} (hr:Rel (ctx ext w β) (.arr j g) u) :
  ∃ ent,β[j]? = some ent∧ent.gen=g∧g≠0∧ent.es=es∧ent.len=xs.length∧xs.length≤ent.cap ∧
   ((ent.blk=none∧xs=[]∧ent.cap=0∧∃ A,u = .slice A 0 0)∨∃ b us,ent.blk=some b∧u = .slice (some ⟨b,0,none⟩) xs.length ent.cap∧w.heap[b]? = some (.cells us t (0,0))∧us.size=ent.cap*es ∧
    RelR { (ctx ext w β) with β:=[] } es (fun i=>us[i]?) 0 xs):=by
 obtain ⟨_,ent,hent,_,hcond⟩:=hr
 obtain ⟨k1,k0,k2,k3,k4,k5⟩:=hI.obj _ _ ent hj hent
 obtain ⟨c1,c2⟩:=hcond k1
 refine ⟨ent,hent,k1,k0,k2,k3,k4,?_⟩
 cases hb:ent.blk with
 | none =>
  rw [hb] at c2 k5
  exact .inl ⟨rfl,List.length_eq_zero_iff.1 (by omega),k5,c2.2⟩
 | some b =>
  rw [hb] at c2 k5
  obtain ⟨us,w1,w2,w3⟩:=k5
  exact .inr ⟨b,us,rfl,by rw [c2,k3],w1,w2,w3⟩
theorem len_arr [T:TyTab P] {dst:Option Tmp} {t:TypeId} {x:Operand} {type:TypeId} {pos:String} {after:Array Edge} {guard:Option (Nat × Bool)} {F:Fr} {H:List AObj} {j g es:Nat} {bt e:TypeId} {xs:List AVal} {r:TyRow}
  (hx:ev F x=some (.arr j g)) (hj:H[j]? = some (.arr g bt es xs)) (ht:tfind T.tab t=some r) (hd:r.d = .slice e) :
  DSem P .s ⟨dst,.call { callee:=.builtin .len,args:=#[x],argTypes:=#[t] },type,pos,after,guard⟩ F H (.v (.int .i64 xs.length)) H:=by
 refine ⟨rfl,?_⟩
 intro ext w β ρ hI hext hκ hρ
 obtain ⟨ent,_,_,_,_,_,_,h⟩:=arr_open hI hj (hρ x (by simp [Op.operands,Call.operands]) _ hx)
 have hu:∃ A m,ρ x = .slice A xs.length m:=by
  rcases h with ⟨_,h1,_,A,h2⟩|⟨b,us,_,h2,_⟩
  ·subst h1;exact ⟨A,0,h2⟩
  ·exact ⟨_,_,h2⟩
 obtain ⟨A,m,hu⟩:=hu
 have h4:(execOp ρ ⟨dst,.call { callee:=.builtin .len,args:=#[x],argTypes:=#[t] },type,pos,after,guard⟩).run P w = .ok (.value (.int .i64 xs.length)) w:=by
  simp [execOp,resolve,invoke,builtin,Builtin.len_,run_und ht,hd,hu,goInt]
 rw [h4]
 exact came_same hI rfl
theorem index_own [T:TyTab P] {dst:Option Tmp} {t:TypeId} {x i:Operand} {type:TypeId} {pos:String} {after:Array Edge} {guard:Option (Nat × Bool)} {F:Fr} {H:List AObj} {j g:Nat} {bt e:TypeId} {xs:List AVal} {k:IntKind} {n:Int} {r r':TyRow}
  (hx:ev F x=some (.arr j g)) (hi:ev F i=some (.v (.int k n))) (hj:H[j]? = some (.arr g bt r.size xs)) (ht:tfind T.tab t=some r') (hd:r'.d = .slice e) (he:tfind T.tab e=some r)
  (h0:0≤n) (hn:n < xs.length):DSem P .s ⟨dst,.indexAddr t x i,type,pos,after,guard⟩ F H (.ep j g n.toNat 0) H:=by
 refine ⟨rfl,?_⟩
 intro ext w β ρ hI hext hκ hρ
 obtain ⟨ent,e1,e2,e3,e4,e5,e6,h⟩:=arr_open hI hj (hρ x (by simp [Op.operands]) _ hx)
 have hni:ρ i = .int k n:=hρ i (by simp [Op.operands]) _ hi
 rcases h with ⟨_,h1,_⟩|⟨b,us,h1,hu,h3,h4,h5⟩
 ·subst h1;simp at hn;omega
 ·have h6:(execOp ρ ⟨dst,.indexAddr t x i,type,pos,after,guard⟩).run P w = .ok (.value (.pointer (some ⟨b,n.toNat*r.size,none⟩))) w:=by
   have hcond:0≤n∧n < (xs.length:Int):=⟨h0,hn⟩
   simp only [execOp,Instr.indexAt,Sem.run_bind,hni,hu,asIntOf,Sem.run_pure,Result.andThen_ok,run_und ht,hd,if_pos hcond,run_size he,addr_add,Nat.zero_add]
  rw [h6]
  exact came_same hI ⟨rfl,ent,e1,by omega,fun _=>⟨b,h1,by rw [e4];rfl⟩⟩
theorem field_own [T:TyTab P] {dst:Option Tmp} {s:TypeId} {x:Operand} {f:Nat} {type:TypeId} {pos:String} {after:Array Edge} {guard:Option (Nat × Bool)} {F:Fr} {H:List AObj} {j g es k off:Nat} {bt:TypeId} {xs:List AVal} {fs:Array Field} {fd:Field} {r r':TyRow}
  (hx:ev F x=some (.ep j g k off)) (hj:H[j]? = some (.arr g bt es xs)) (ht:tfind T.tab s=some r') (hd:r'.d = .struct fs) (hf:fs[f]? = some fd) (he:tfind T.tab fd.type=some r) (hz:r.size≠0) :
  DSem P .s ⟨dst,.fieldAddr s x f,type,pos,after,guard⟩ F H (.ep j g k (off+fd.offset)) H:=by
 refine ⟨rfl,?_⟩
 intro ext w β ρ hI hext hκ hρ
 obtain ⟨_,ent,hent,hg,hcond⟩:=hρ x (by simp [Op.operands]) _ hx
 obtain ⟨k1,k0,k2,k3,k4,k5⟩:=hI.obj _ _ ent hj hent
 obtain ⟨b,hb,hu⟩:=hcond k1
 have h6:(execOp ρ ⟨dst,.fieldAddr s x f,type,pos,after,guard⟩).run P w = .ok (.value (.pointer (some ⟨b,k*ent.es+(off+fd.offset),none⟩))) w:=by
  simp only [execOp,Instr.fieldAt,Sem.run_bind,run_und ht,hd,Result.andThen_ok,hf,Instr.sureAddr,hu,fieldPlace,run_size he,hz,if_false,addr_add,Sem.run_pure,Nat.add_assoc]
 rw [h6]
 exact came_same hI ⟨rfl,ent,hent,hg,fun _=>⟨b,hb,rfl⟩⟩
theorem ep_open {ext:Nat→Prop} {w:World} {H:List AObj} {β:List Ent} (hI:Inv ext w H β) {j g k off:Nat} {t:TypeId} {es:Nat} {xs:List AVal} {y:AVal} (hj:H[j]? = some (.arr g t es xs)) (hy:xs[k]? = some y) {u:Value} (hr:Rel (ctx ext w β) (.ep j g k off) u) :
  ∃ ent b us v,β[j]? = some ent∧ent.gen=g∧g≠0∧ent.es=es∧ent.len=xs.length∧xs.length≤ent.cap∧ent.blk=some b∧u = .pointer (some ⟨b,k*es+off,none⟩)∧w.heap[b]? = some (.cells us t (0,0))∧us.size=ent.cap*es ∧
   RelR { (ctx ext w β) with β:=[] } es (fun i=>us[i]?) 0 xs∧Rel { (ctx ext w β) with β:=[] } y v∧v.cells.size=es∧∀ q,q < es→us[k*es+q]? = v.cells[q]?:=by
 obtain ⟨_,ent,hent,hg,hcond⟩:=hr
 obtain ⟨k1,k0,k2,k3,k4,k5⟩:=hI.obj _ _ ent hj hent
 obtain ⟨b,hb,hu⟩:=hcond k1
 rw [hb] at k5
 obtain ⟨us,w1,w2,w3⟩:=k5
 obtain ⟨v,v1,v2,v3⟩:=w3.get hy
 exact ⟨ent,b,us,v,hent,k1,k0,k2,k3,k4,hb,by rw [hu,k2],w1,w2,w3,v1,v2,by simpa using v3⟩
theorem load_own [T:TyTab P] {dst:Option Tmp} {t:TypeId} {a:Operand} {type:TypeId} {pos:String} {after:Array Edge} {guard:Option (Nat × Bool)} {F:Fr} {H:List AObj} {j g k off es:Nat} {bt:TypeId} {xs:List AVal} {y:AVal} {r:TyRow} {v:AVal}
  (ha:ev F a=some (.ep j g k off)) (hj:H[j]? = some (.arr g bt es xs)) (hy:xs[k]? = some y) (hf:y.flat=true) (ht:tfind T.tab t=some r) (hv:takeA r y.cells off=some v) :
  DSem P .s ⟨dst,.load t a,type,pos,after,guard⟩ F H v H:=by
 refine ⟨rfl,?_⟩
 intro ext w β ρ hI hext hκ hρ
 obtain ⟨ent,b,us,x,e1,e2,e3,e4,e5,e6,e7,hu,h2,h3,h4,h5,h6,h7⟩:=ep_open hI hj hy (hρ a (by simp [Op.operands]) _ ha)
 obtain ⟨c1,c2⟩:=h5.cells hf
 obtain ⟨z,z1,z2⟩:=takeA_load (P:=P) ht c1 hv (w:=w) (b:=b) (o:=k*es) (fun i z hz=>by
  have hlt:i < es:=by rw [←h6];simpa using (List.getElem?_eq_some_iff.1 hz).1
  have:=h7 i hlt
  simp only [World.cell?,h2,Option.isSome_none,Bool.false_eq_true,if_false]
  rw [this];simpa using hz)
 have h8:(execOp ρ ⟨dst,.load t a,type,pos,after,guard⟩).run P w = .ok (.value z) w:=by
  simp only [execOp,Instr.loadAt,Instr.sureAddr,hu,Sem.run_bind,Sem.run_pure,Result.andThen_ok,z1]
 rw [h8]
 exact came_same hI (Rel.le (c:={ (ctx ext w β) with β:=[] }) (c':=ctx ext w β) ⟨fun b hb1 hb2=>⟨hb1,hb2,.inl rfl⟩,fun j e he=>by simp at he⟩ _ _ z2)
def elemSet (y:AVal) (off:Nat) (vs:List AVal):AVal :=
 match y with
 | .agg cs=>.agg (spliceA cs off vs)
 | x=>match vs with
  | [v]=>v
  | _=>x
theorem rows_set {c:Ctx} {es:Nat} {us us':Array Value} {xs:List AVal} {k:Nat} {y':AVal} (hr:RelR c es (fun i=>us[i]?) 0 xs) (hk:k < xs.length) (hy:∃ v,Rel c y' v∧v.cells.size=es∧∀ q,q < es→us'[k*es+q]? = v.cells[q]?)
  (ho:∀ i,(i < k*es∨k*es+es≤i)→us'[i]? = us[i]?):RelR c es (fun i=>us'[i]?) 0 (xs.set k y'):=by
 refine RelR.of_get fun i a ha=>?_
 by_cases hik:i=k
 ·subst hik
  rw [List.getElem?_set_self hk] at ha
  simp at ha;subst ha
  simpa using hy
 ·rw [List.getElem?_set_ne (by omega)] at ha
  obtain ⟨v,v1,v2,v3⟩:=hr.get ha
  refine ⟨v,v1,v2,fun q hq=>?_⟩
  have:=v3 q hq
  simp only [Nat.zero_add] at this ⊢
  rw [ho,this]
  rcases Nat.lt_or_gt_of_ne hik with h|h
  ·left
   have:(i+1)*es≤k*es:=Nat.mul_le_mul_right _ h
   rw [Nat.add_mul,Nat.one_mul] at this;omega
  ·right
   have:(k+1)*es≤i*es:=Nat.mul_le_mul_right _ h
   rw [Nat.add_mul,Nat.one_mul] at this;omega
theorem agg_splice {c:Ctx} {cs vs:List AVal} {ya:Array Value} {us us' xv:List Value} {b off n es:Nat} (hy:RelL c cs ya.toList) (hv:RelL c vs xv) (hn:xv.length=n) (hl:ya.toList.length=es) (hin:off+n≤es)
  (hold:∀ q,q < es→us[b+q]? = ya.toList[q]?) (hbefore:∀ i,i < b+off→us'[i]? = us[i]?) (hafter:∀ i,b+off+n≤i→us'[i]? = us[i]?) (hmid:∀ q,q < n→us'[b+off+q]? = xv[q]?) :
  ∃ v,Rel c (.agg (spliceA cs off vs)) v∧v.cells.size=es∧∀ q,q < es→us'[b+q]? = v.cells[q]?:=by
 have hvl:=hv.length
 have hl5:(ya.toList.take off).length=off:=by rw [List.length_take,hl];omega
 refine ⟨.agg (ya.toList.take off++xv++ya.toList.drop (off+n)).toArray,⟨_,rfl,?_⟩,?_,fun q hq=>?_⟩
 ·unfold spliceA
  rw [←hvl,hn]
  exact ((hy.take off).append hv).append (hy.drop _)
 ·show (List.toArray _).size=es
  simp only [List.size_toArray,List.length_append,hl5,List.length_drop,hl,hn];omega
 ·show us'[b+q]? = (List.toArray _)[q]?
  rw [List.getElem?_toArray]
  by_cases hq1:q < off
  ·rw [hbefore _ (by omega),hold q hq,List.append_assoc,List.getElem?_append_left (by omega),List.getElem?_take,if_pos hq1]
  ·by_cases hq2:q < off+n
   ·have:=hmid (q-off) (by omega)
    rw [show b+off+(q-off)=b+q by omega] at this
    rw [this,List.append_assoc,List.getElem?_append_right (by omega),hl5,List.getElem?_append_left (by omega)]
   ·have hl6:(ya.toList.take off++xv).length=off+n:=by rw [List.length_append,hl5,hn]
    rw [hafter _ (by omega),hold q hq,List.getElem?_append_right (by omega),hl6,List.getElem?_drop]
    rw [show off+n+(q-(off+n))=q by omega]
theorem store_own [T:TyTab P] {dst:Option Tmp} {t:TypeId} {a x:Operand} {type:TypeId} {pos:String} {after:Array Edge} {guard:Option (Nat × Bool)} {F:Fr} {H:List AObj} {j g k off es:Nat} {bt:TypeId} {xs:List AVal} {y v:AVal} {r:TyRow}
  (ha:ev F a=some (.ep j g k off)) (hx:ev F x=some v) (hj:H[j]? = some (.arr g bt es xs)) (hy:xs[k]? = some y) (hyf:y.flat=true) (ht:tfind T.tab t=some r) (hl:v.cells.length=r.size) (hf:v.flat=true) (hfr:v.free=true) (hin:off+r.size≤y.cells.length)
  (hwhole:(∃ cs,y = .agg cs)∨y.one=true∧v.cells=[v]) :
  OpSem P ⟨dst,.store t a x,type,pos,after,guard⟩ F H (one (.tup []) (H.set j (.arr g bt es (xs.set k (elemSet y off v.cells))))):=by
 intro ext w β ρ hI hext hκ hρ
 obtain ⟨ent,b,us,yv,e1,e2,e3,e4,e5,e6,e7,hu,h2,h3,h4,h5,h6,h7⟩:=ep_open hI hj hy (hρ a (by simp [Op.operands]) _ ha)
 have hv:=Rel.bare v _ hfr (hρ x (by simp [Op.operands]) _ hx)
 obtain ⟨hcl,hco⟩:=hv.cells hf
 obtain ⟨yc,yo⟩:=h5.cells hyf
 have l1:=hcl.length
 have l2:=yc.length
 simp only [Array.length_toList] at l1 l2
 have hk:k < xs.length:=(List.getElem?_eq_some_iff.1 hy).1
 have hkes:k*es+es≤ent.cap*es:=by
  have:(k+1)*es≤ent.cap*es:=Nat.mul_le_mul_right _ (by omega)
  rw [Nat.add_mul,Nat.one_mul] at this;omega
 have hst:=run_storeCells_at P b (k*es+off) bt (ρ x).cells.toList 0 us w h2 (by simp;omega) hco
 simp only [Nat.add_zero] at hst
 generalize hus:(us.toList.take (k*es+off)++(ρ x).cells.toList++us.toList.drop (k*es+off+(ρ x).cells.toList.length)).toArray=us' at hst
 have h9:(execOp ρ ⟨dst,.store t a x,type,pos,after,guard⟩).run P w = .ok .skip (w.setRow b us'):=by
  simp only [execOp,Instr.storeAt,Instr.sureAddr,hu,storeVar,Sem.run_bind,Sem.run_pure,Result.andThen_ok,run_size ht]
  rw [if_neg (by simp;omega)]
  rw [hst]
  rfl
 rw [h9]
 have hstep:Step w β (w.setRow b us') β:=Step.write ⟨j,ent,e1,e7⟩ (by simp) (fun c hc=>setRow_other w b c us' hc) rfl rfl rfl
 have hget:∀ i:Nat,us'[i]? = (us.toList.take (k*es+off)++(ρ x).cells.toList++us.toList.drop (k*es+off+r.size))[i]?:=fun i=>by
  rw [←hus];simp [l1,hl]
 have husl:us.toList.length=ent.cap*es:=by simpa using h3
 have hxl:(ρ x).cells.toList.length=r.size:=by simp;omega
 -- the cells one by one
 have hbefore:∀ i,i < k*es+off→us'[i]? = us[i]?:=fun i hi=>by
  rw [hget,List.append_assoc,List.getElem?_append_left (by simp;omega),List.getElem?_take,if_pos hi];simp
 have hafter:∀ i,k*es+off+r.size≤i→us'[i]? = us[i]?:=fun i hi=>by
  have hl3:(us.toList.take (k*es+off)++(ρ x).cells.toList).length=k*es+off+r.size:=by
   simp only [List.length_append,List.length_take,husl,hxl];omega
  rw [hget,List.getElem?_append_right (by omega),hl3,List.getElem?_drop]
  rw [show k*es+off+r.size+(i-(k*es+off+r.size))=i by omega];simp
 have hmid:∀ q,q < r.size→us'[k*es+off+q]? = (ρ x).cells[q]?:=fun q hq=>by
  have hl4:(us.toList.take (k*es+off)).length=k*es+off:=by simp only [List.length_take,husl];omega
  rw [hget,List.append_assoc,List.getElem?_append_right (by omega),hl4,List.getElem?_append_left (by omega)]
  rw [show k*es+off+q-(k*es+off)=q by omega];simp
 have hrow:RelR { (ctx ext w β) with β:=[] } es (fun i=>us'[i]?) 0 (xs.set k (elemSet y off v.cells)):=by
  refine rows_set h4 hk ?_ (fun i hi=>?_)
  ·rcases hwhole with ⟨cs,rfl⟩|⟨hz1,hz2⟩
   ·obtain ⟨ya,rfl,yr⟩:=h5
    have h6':ya.size=es:=h6
    have hyl:ya.toList.length=es:=by simpa using h6'
    have hcl2:cs.length=es:=by rw [←hyl];exact yr.length.symm
    have hin':off+r.size≤es:=by rw [←hcl2];exact hin
    obtain ⟨v1,g1,g2,g3⟩:=agg_splice (us:=us.toList) (us':=us'.toList) (xv:=(ρ x).cells.toList) yr hcl hxl hyl hin' (fun q hq=>by have:=h7 q hq;simpa [Value.cells] using this) (fun i hi=>by simpa using hbefore i hi) (fun i hi=>by simpa using hafter i hi) (fun q hq=>by simpa using hmid q hq)
    exact ⟨v1,g1,g2,fun q hq=>by simpa using g3 q hq⟩
   ·have hes:y.cells.length=1:=by cases y<;>first|rfl|(simp [AVal.one] at hz1)
    have hr1:r.size=1:=by rw [←hl,hz2];rfl
    have hoff:off=0:=by omega
    subst hoff
    have h10:elemSet y 0 v.cells=v:=by
     rw [hz2];cases y<;>first|rfl|(simp [AVal.one] at hz1)
    rw [h10]
    refine ⟨ρ x,hv,by omega,fun q hq=>?_⟩
    have:=hmid q (by omega)
    simpa using this
  ·rcases hi with hi|hi
   ·exact hbefore i (by omega)
   ·exact hafter i (by omega)
 refine ⟨.tup [],_,β,⟨rfl,rfl⟩,⟨#[],rfl,rfl⟩,hI.write e1 e7 (by simp) (fun c hc=>setRow_other w b c us' hc) rfl rfl rfl ⟨e2,e3,e4,by simpa using e5,by simpa using e6,?_⟩,hstep⟩
 rw [e7]
 refine ⟨us',setRow_get h2,?_,hrow.le (hstep.le (ext:=ext)).bare _ _ _ _⟩
 rw [←hus]
 simp only [List.size_toArray,List.length_append,List.length_take,List.length_drop,husl,hxl]
 omega
end
end Go.AL
namespace Go.AL
open Go
section
variable {P:Program}
def Enters (P:Program) (f:FuncId):Prop:=∃ fn,P.funcs[f]? = some fn∧(fn.name == "runtime.NumGoroutine")=false∧fn.body.isNone=false
structure ACalls (P:Program) (f:FuncId) (args:List AVal) (H:List AObj) (Q:Eff):Prop where
 enters:Enters P f
 calls:∀ (ext:Nat→Prop) (w:World) (β:List Ent) (us:List Value),Inv ext w H β→(∀ b,ext b→b < w.heap.size)→RelL (ctx ext w β) args us→Calls P f us.toArray w (Ended ext w β Q)
theorem Came.mono {ext:Nat→Prop} {w:World} {β:List Ent} {Q Q':Eff} {k:AVal→ARes} {u:Value} {w':World} (hq:∀ r H,Q r H→Q' r H) (h:Came ext w β Q k u w'):Came ext w β Q' k u w':=by
 obtain ⟨v,H',β',h1,h2⟩:=h
 exact ⟨v,H',β',hq _ _ h1,h2⟩
theorem Ended.mono {ext:Nat→Prop} {w:World} {β:List Ent} {Q Q':Eff} (hq:∀ r H,Q r H→Q' r H):∀ {e:Ending} {w':World},Ended ext w β Q e w'→Ended ext w β Q' e w'
 | .returned u,w',h=>Came.mono hq h
 | .panicked ch,w',⟨u,h1,h2⟩=>⟨u,h1,Came.mono hq h2⟩
 | .outgrown,_,h=>h
theorem ACalls.mono {f:FuncId} {args:List AVal} {H:List AObj} {Q Q':Eff} (h:ACalls P f args H Q) (hq:∀ r H,Q r H→Q' r H):ACalls P f args H Q' :=
 ⟨h.enters,fun ext w β us hI hx hr=>(h.calls ext w β us hI hx hr).mono fun e w' he=>Ended.mono hq he⟩
theorem callFunc_run {f:FuncId} (h:Enters P f) (args:Array Value) (w:World):(callFunc f args).run P w = .ok (.enter f args) w:=by
 obtain ⟨fn,h1,h2,h3⟩:=h
 unfold callFunc
 simp only [Sem.run_bind,run_program,Result.andThen_ok,h1,h2,h3,Bool.false_eq_true,if_false,Sem.run_pure]
theorem call_sem {dst:Option Tmp} {fo:Operand} {args:Array Operand} {argTypes:Array TypeId} {type:TypeId} {pos:String} {after:Array Edge} {guard:Option (Nat × Bool)} {F:Fr} {H:List AObj} {g:FuncId} {first vs cap:List AVal} {Q:Eff}
  (hf:ev F fo=some (.fn (.func g) first cap)) (ha:evs F args.toList=some vs) (hc:ACalls P g (first++vs++cap) H Q) :
  OpSem P ⟨dst,.call { callee:=.value fo,args,argTypes },type,pos,after,guard⟩ F H Q:=by
 intro ext w β ρ hI hext hκ hρ
 obtain ⟨a1,a2,hu,r1,r2⟩:=hρ fo (by simp [Op.operands,Call.operands]) _ hf
 have r3:=evs_rel (c:=ctx ext w β) (ρ:=ρ) (fun x hx=>hρ x (by simp [Op.operands,Call.operands];exact .inr (by simpa using hx))) ha
 have h4:(execOp ρ ⟨dst,.call { callee:=.value fo,args,argTypes },type,pos,after,guard⟩).run P w = .ok (.enter g (a1++args.map ρ++a2)) w:=by
  simp only [execOp,resolve,hu,Deferred.ofValue,Sem.run_bind,Sem.run_pure,Result.andThen_ok,invoke]
  exact callFunc_run hc.enters _ w
 rw [h4]
 have he:(a1.toList++args.toList.map ρ++a2.toList).toArray=a1++args.map ρ++a2:=by apply Array.ext';simp
 have h5:=hc.calls ext w β (a1.toList++args.toList.map ρ++a2.toList) hI hext ((r1.append r3).append r2)
 rw [he] at h5
 exact h5
def params (k:Nat):List AVal→Fr
 | []=>[]
 | v::vs=>(k,v)::params (k+1) vs
theorem params_get:∀ {vs:List AVal} {k t:Nat} {v:AVal},fget (params k vs) t=some v→k≤t∧vs[t-k]? = some v
 | [],k,t,v,h=>by cases h
 | x::xs,k,t,v,h=>by
  simp only [params,fget] at h
  cases hb:Nat.beq k t with
  | true =>
   rw [hb] at h;simp at h;subst h
   have:=Nat.eq_of_beq_eq_true hb
   subst this
   simp
  | false =>
   rw [hb] at h;simp at h
   obtain ⟨h1,h2⟩:=params_get h
   refine ⟨by omega,?_⟩
   rw [show t-k=(t-(k+1))+1 by omega]
   simpa using h2
def resA1 (tab:List TyRow) (F:Fr) (H:List AObj):ResultVar→Option AVal
 | .tmp t=>fget F t
 | .cell a t=>loadB tab (.load t (.tmp a)) F H
def resAs (tab:List TyRow) (F:Fr) (H:List AObj):List ResultVar→Option (List AVal)
 | []=>some []
 | r::rs=>match resA1 tab F H r,resAs tab F H rs with
  | some v,some vs=>some (v::vs)
  | _,_=>none
def resA (tab:List TyRow) (rs:List ResultVar) (F:Fr) (H:List AObj):Option AVal :=
 match resAs tab F H rs with
 | some [v]=>some v
 | some vs=>some (.tup vs)
 | none=>none
def kap (n:Nat) (ks:List Nat) (i:Nat):Option Nat:=cond (Nat.blt i n) (some i) (posIn ks n)
where posIn:List Nat→Nat→Option Nat
 | [],_=>none
 | k::ks,m=>cond (Nat.beq k i) (some m) (posIn ks (m+1))
mutual
def finV (κ:Nat→Option Nat) (H:List AObj) (wk:Bool):AVal→Option AVal
 | .v x=>some (.v x)
 | .agg cs=>(finL κ H wk cs).map .agg
 | .tup cs=>(finL κ H wk cs).map .tup
 | .sl xs=>some (.sl xs)
 | .slf xs=>some (cond wk (.sl xs) (.slf xs))
 | .slz xs=>some (.slz xs)
 | .arr j g=>match κ j with
  | some j'=>some (.arr j' g)
  | none=>match H[j]? with
   | some (.arr g' _ _ xs)=>cond (Nat.beq g g') (some (.sl xs)) none
   | _=>none
 | .ptr j off=>(κ j).map (.ptr · off)
 | .pp cs off=>some (.pp cs off)
 | .ep j g k off=>(κ j).map (.ep · g k off)
 | .fn f a b=>match finL κ H wk a,finL κ H wk b with
  | some a',some b'=>some (.fn f a' b')
  | _,_=>none
 | .mp j=>(κ j).map .mp
 | .hd j g off len=>(κ j).map (.hd · g off len)
 | .bs j off len cap=>(κ j).map (.bs · off len cap)
 | .ifc t x=>(finV κ H wk x).map (.ifc t)
def finL (κ:Nat→Option Nat) (H:List AObj) (wk:Bool):List AVal→Option (List AVal)
 | []=>some []
 | x::xs=>match finV κ H wk x,finL κ H wk xs with
  | some v,some vs=>some (v::vs)
  | _,_=>none
end
theorem slz_weak {c:Ctx} {xs:List AVal} {u:Value} (h:Rel c (.slz xs) u):Rel c (.sl xs) u:=by
 obtain ⟨A,m,es,h1,h2,h3,h4,_⟩:=h
 exact ⟨A,m,es,h1,h2,h3,h4⟩
theorem sl_weak {c:Ctx} {xs:List AVal} {u:Value} (h:Rel c (.slf xs) u):Rel c (.sl xs) u:=by
 obtain ⟨A,es,h1,h2,h3⟩:=h
 exact ⟨A,_,es,h1,Nat.le_refl _,h2,h3⟩
structure FinOk (ext:Nat→Prop) (w:World) (H:List AObj) (β β':List Ent) (κ:Nat→Option Nat):Prop where
 map:∀ (i j:Nat) (e:Ent),κ i=some j→β[i]? = some e→β'[j]? = some e
 sub:∀ b,Blk β' b→Blk β b
 gone:∀ (i:Nat) (e:Ent) (b:Nat),κ i=none→β[i]? = some e→e.blk=some b→¬Blk β' b
theorem FinOk.le {ext:Nat→Prop} {w:World} {H:List AObj} {β β':List Ent} {κ:Nat→Option Nat} (h:FinOk ext w H β β' κ):Ctx.le { ctx ext w β with β:=[] } { ctx ext w β' with β:=[] } :=
 ⟨fun b hb1 hb2=>⟨hb1,fun hb=>hb2 (hb.imp id (h.sub b)),.inl rfl⟩,fun (j:Nat) (e:Ent) he=>by simp at he⟩
mutual
theorem finV_rel {ext:Nat→Prop} {w:World} {H:List AObj} {β β':List Ent} {κ:Nat→Option Nat} {wk:Bool} (hI:Inv ext w H β) (hk:FinOk ext w H β β' κ) :
  ∀ (a:AVal) (a':AVal) (u:Value),finV κ H wk a=some a'→Rel (ctx ext w β) a u→Rel (ctx ext w β') a' u
 | .v x,a',u,h,r=>by simp [finV] at h;subst h;exact r
 | .agg cs,a',u,h,r=>by
  obtain ⟨ua,e,r⟩:=r
  simp only [finV] at h
  cases hl:finL κ H wk cs with
  | none=>rw [hl] at h;cases h
  | some cs'=>rw [hl] at h;simp at h;subst h;exact ⟨ua,e,finL_rel hI hk cs cs' _ hl r⟩
 | .tup cs,a',u,h,r=>by
  obtain ⟨ua,e,r⟩:=r
  simp only [finV] at h
  cases hl:finL κ H wk cs with
  | none=>rw [hl] at h;cases h
  | some cs'=>rw [hl] at h;simp at h;subst h;exact ⟨ua,e,finL_rel hI hk cs cs' _ hl r⟩
 | .sl xs,a',u,h,r=>by
  simp [finV] at h;subst h
  obtain ⟨A,m,es,h1,h2,h3,h4⟩:=r
  exact ⟨A,m,es,h1,h2,fun hx=>by
   obtain ⟨b,o,e1,e2,e3⟩:=h3 hx
   exact ⟨b,o,e1,fun hb=>e2 (hb.imp id (hk.sub b)),e3⟩,h4.le hk.le _ _ _ _⟩
 | .slz xs,a',u,h,r=>by
  simp [finV] at h;subst h
  obtain ⟨A,m,es,h1,h2,h3,h4,h5⟩:=r
  exact ⟨A,m,es,h1,h2,fun hx=>by
   obtain ⟨b,o,e1,e2,e3⟩:=h3 hx
   exact ⟨b,o,e1,fun hb=>e2 (hb.imp id (hk.sub b)),e3⟩,h4.le hk.le _ _ _ _,h5⟩
 | .slf xs,a',u,h,r=>by
  have r':Rel (ctx ext w β') (.slf xs) u:=by
   obtain ⟨A,es,h1,h3,h4⟩:=r
   exact ⟨A,es,h1,fun hx=>by
    obtain ⟨b,o,e1,e2,e3⟩:=h3 hx
    exact ⟨b,o,e1,fun hb=>e2 (hb.imp id (hk.sub b)),e3⟩,h4.le hk.le _ _ _ _⟩
  simp [finV] at h;subst h
  cases wk with
  | true=>exact sl_weak r'
  | false=>exact r'
 | .arr j g,a',u,h,r=>by
  simp only [finV] at h
  cases hj:κ j with
  | some j' =>
   rw [hj] at h;simp at h;subst h
   obtain ⟨h0,e,he,hg,hu⟩:=r
   exact ⟨h0,e,hk.map j j' e hj he,hg,hu⟩
  | none =>
   rw [hj] at h
   simp only at h
   split at h
   ·rename_i g' t es xs hH
    cases hb:Nat.beq g g' with
    | false=>rw [hb] at h;cases h
    | true =>
     rw [hb] at h;simp at h;subst h
     have:=Nat.eq_of_beq_eq_true hb
     subst this
     obtain ⟨ent,e1,e2,e3,e4,e5,e6,h7⟩:=arr_open hI hH r
     rcases h7 with ⟨_,h8,_,A,h9⟩|⟨b,us,h8,h9,h10,h11,h12⟩
     ·subst h8
      exact ⟨A,0,0,h9,Nat.le_refl _,fun hx=>absurd rfl hx,trivial⟩
     ·refine ⟨_,ent.cap,es,h9,e6,fun _=>⟨b,0,rfl,?_,(hI.sep b ⟨j,ent,e1,h8⟩).2⟩,?_⟩
      ·rintro (hb|hb)
       ·exact (hI.sep b ⟨j,ent,e1,h8⟩).1 hb
       ·exact hk.gone j ent b hj e1 h8 hb
      ·have:rdA w (some ⟨b,0,none⟩)=fun (i:Nat)=>us[i]?:=by
        funext i
        simp [rdA,World.cell?,h10]
       show RelR _ es (rdA w (some ⟨b,0,none⟩)) 0 xs
       rw [this]
       exact h12.le hk.le _ _ _ _
   ·cases h
 | .ptr j off,a',u,h,r=>by
  simp only [finV] at h
  cases hj:κ j with
  | none=>rw [hj] at h;cases h
  | some j' =>
   rw [hj] at h;simp at h;subst h
   obtain ⟨e,b,he,h0,hb,hu⟩:=r
   exact ⟨e,b,hk.map j j' e hj he,h0,hb,hu⟩
 | .pp cs off,a',u,h,r=>by
  simp [finV] at h;subst h
  obtain ⟨b,o,us,h1,h2,h3,h4,h5⟩:=r
  exact ⟨b,o,us,h1,fun hb=>h2 (hb.imp id (hk.sub b)),h3,h4.le hk.le,h5⟩
 | .ep j g k off,a',u,h,r=>by
  simp only [finV] at h
  cases hj:κ j with
  | none=>rw [hj] at h;cases h
  | some j' =>
   rw [hj] at h;simp at h;subst h
   obtain ⟨h0,e,he,hg,hu⟩:=r
   exact ⟨h0,e,hk.map j j' e hj he,hg,hu⟩
 | .fn f a b,a',u,h,r=>by
  simp only [finV] at h
  obtain ⟨a1,a2,e,r1,r2⟩:=r
  cases h1:finL κ H wk a with
  | none=>rw [h1] at h;cases h
  | some x =>
   cases h2:finL κ H wk b with
   | none=>rw [h1,h2] at h;cases h
   | some y =>
    rw [h1,h2] at h;simp at h;subst h
    exact ⟨a1,a2,e,finL_rel hI hk a x _ h1 r1,finL_rel hI hk b y _ h2 r2⟩
 | .bs j off len cap,a',u,h,r=>by
  simp only [finV] at h
  cases hj:κ j with
  | none=>rw [hj] at h;cases h
  | some j' =>
   rw [hj] at h;simp at h;subst h
   obtain ⟨e,b,he,h0,hb,hu⟩:=r
   exact ⟨e,b,hk.map j j' e hj he,h0,hb,hu⟩
 | .hd j g off len,a',u,h,r=>by
  simp only [finV] at h
  cases hj:κ j with
  | none=>rw [hj] at h;cases h
  | some j' =>
   rw [hj] at h;simp at h;subst h
   obtain ⟨h0,e,he,hg,hu⟩:=r
   exact ⟨h0,e,hk.map j j' e hj he,hg,hu⟩
 | .mp j,a',u,h,r=>by
  simp only [finV] at h
  cases hj:κ j with
  | none=>rw [hj] at h;cases h
  | some j' =>
   rw [hj] at h;simp at h;subst h
   obtain ⟨e,b,he,h0,hb,hu⟩:=r
   exact ⟨e,b,hk.map j j' e hj he,h0,hb,hu⟩
 | .ifc t x,a',u,h,r=>by
  simp only [finV] at h
  obtain ⟨y,e,r⟩:=r
  cases h1:finV κ H wk x with
  | none=>rw [h1] at h;cases h
  | some x'=>rw [h1] at h;simp at h;subst h;exact ⟨y,e,finV_rel hI hk x x' y h1 r⟩
theorem finL_rel {ext:Nat→Prop} {w:World} {H:List AObj} {β β':List Ent} {κ:Nat→Option Nat} {wk:Bool} (hI:Inv ext w H β) (hk:FinOk ext w H β β' κ) :
  ∀ (asL as':List AVal) (us:List Value),finL κ H wk asL=some as'→RelL (ctx ext w β) asL us→RelL (ctx ext w β') as' us
 | [],as',us,h,r=>by simp [finL] at h;subst h;exact r
 | x::xs,as',us,h,r=>by
  obtain ⟨u,us',e,r,rs⟩:=r
  simp only [finL] at h
  cases h1:finV κ H wk x with
  | none=>rw [h1] at h;cases h
  | some v =>
   cases h2:finL κ H wk xs with
   | none=>rw [h1,h2] at h;cases h
   | some vs =>
    rw [h1,h2] at h;simp at h;subst h
    exact ⟨u,us',e,finV_rel hI hk x v u h1 r,finL_rel hI hk xs vs us' h2 rs⟩
end
def finM (κ:Nat→Option Nat) (H:List AObj) (wk:Bool):List (Value × AVal)→Option (List (Value × AVal))
 | []=>some []
 | (k,x)::es=>match finV κ H wk x,finM κ H wk es with
  | some v,some vs=>some ((k,v)::vs)
  | _,_=>none
def finO (κ:Nat→Option Nat) (H:List AObj) (wk:Bool):AObj→Option AObj
 | .box t cs=>match finL κ H wk cs with
  | some cs'=>cond (cs'.all AVal.one) (some (.box t cs')) none
  | none=>none
 | .map es=>(finM κ H wk es).map .map
 | .loop l st pend s vs=>(finL κ H wk vs).map (.loop l st pend s)
 | o=>some o
theorem finM_rel {ext:Nat→Prop} {w:World} {H:List AObj} {β β':List Ent} {κ:Nat→Option Nat} {wk:Bool} (hI:Inv ext w H β) (hk:FinOk ext w H β β' κ) :
  ∀ (es es':List (Value × AVal)) (ms:List MapEntry),finM κ H wk es=some es'→RelM (ctx ext w β) es ms→RelM (ctx ext w β') es' ms
 | [],es',ms,h,r=>by simp [finM] at h;subst h;exact r
 | (k,x)::es,es',ms,h,r=>by
  obtain ⟨m,ms',e,e1,r,rs⟩:=r
  simp only [finM] at h
  cases h1:finV κ H wk x with
  | none=>rw [h1] at h;cases h
  | some v =>
   cases h2:finM κ H wk es with
   | none=>rw [h1,h2] at h;cases h
   | some vs =>
    rw [h1,h2] at h;simp at h;subst h
    exact ⟨m,ms',e,e1,finV_rel hI hk x v _ h1 r,finM_rel hI hk es vs ms' h2 rs⟩
theorem finO_rel {ext:Nat→Prop} {w:World} {H:List AObj} {β β':List Ent} {κ:Nat→Option Nat} {wk:Bool} (hI:Inv ext w H β) (hk:FinOk ext w H β β' κ) {e:Ent} {o o':AObj} (h:finO κ H wk o=some o')
  (r:RelO (ctx ext w β) e o):RelO (ctx ext w β') e o':=by
 cases o with
 | box t cs =>
  simp only [finO] at h
  cases h1:finL κ H wk cs with
  | none=>rw [h1] at h;cases h
  | some cs' =>
   rw [h1] at h
   simp only at h
   cases h2:cs'.all AVal.one with
   | false=>rw [h2] at h;cases h
   | true =>
    rw [h2] at h;simp at h;subst h
    obtain ⟨r1,r2,b,us,r3,r4,r5⟩:=r
    exact ⟨r1,h2,b,us,r3,r4,finL_rel hI hk cs cs' _ h1 r5⟩
 | arr g t es xs =>
  simp only [finO] at h
  injection h with h;subst h
  obtain ⟨k1,k0,k2,k3,k4,k5⟩:=r
  refine ⟨k1,k0,k2,k3,k4,?_⟩
  cases hb:e.blk with
  | none=>rw [hb] at k5;exact k5
  | some b =>
   rw [hb] at k5
   obtain ⟨us,w1,w2,w3⟩:=k5
   exact ⟨us,w1,w2,w3.le hk.le _ _ _ _⟩
 | raw x o=>simp only [finO] at h;injection h with h;subst h;exact r
 | loop l st pend s vs =>
  simp only [finO] at h
  cases h1:finL κ H wk vs with
  | none=>rw [h1] at h;cases h
  | some vs' =>
   rw [h1] at h;simp at h;subst h
   obtain ⟨r1,r3,tmps,us,r4,r5,r6,r7⟩:=r
   exact ⟨r1,r3,tmps,us,r4,r5,finL_rel hI hk vs vs' _ h1 r6,r7⟩
 | fix x o =>
  simp only [finO] at h;injection h with h;subst h
  obtain ⟨h1,h2,h3,h4,h5,h6⟩:=r
  exact ⟨h1,h2,h3,h4,fun hb=>h5 (hb.imp id (hk.sub x)),h6⟩
 | map es =>
  simp only [finO] at h
  cases h1:finM κ H wk es with
  | none=>rw [h1] at h;cases h
  | some es' =>
   rw [h1] at h;simp at h;subst h
   obtain ⟨r1,b,ms,c,r3,r4,r5⟩:=r
   exact ⟨r1,b,ms,c,r3,r4,finM_rel hI hk es es' _ h1 r5⟩
 | dead g=>simp only [finO] at h;injection h with h;subst h;exact r
 | vmap es =>
  simp only [finO] at h;injection h with h;subst h
  obtain ⟨h1,b,ms,clock,h3,h4,h5⟩:=r
  exact ⟨h1,b,ms,clock,h3,h4,h5.vals⟩
 | row g t es xs =>
  simp only [finO] at h;injection h with h;subst h
  obtain ⟨h1,h0,h2,hl,h3,b,us,h4,h5,h6,h7⟩:=r
  exact ⟨h1,h0,h2,hl,h3,b,us,h4,h5,h6,h7.le hk.le _ _ _ _⟩
def finOs (κ:Nat→Option Nat) (H:List AObj) (wk:Bool):List AObj→Option (List AObj)
 | []=>some []
 | o::os=>match finO κ H wk o,finOs κ H wk os with
  | some v,some vs=>some (v::vs)
  | _,_=>none
def picks {α:Type} (l:List α):List Nat→Option (List α)
 | []=>some []
 | k::ks=>match l[k]?,picks l ks with
  | some v,some vs=>some (v::vs)
  | _,_=>none
def finish (n:Nat) (ks:List Nat) (wk:Bool) (H:List AObj) (r:AVal):Option (AVal × List AObj) :=
 match finV (kap n ks) H wk r,picks H ks with
 | some r',some hs=>match finOs (kap n ks) H wk (H.take n++hs) with
  | some H'=>some (r',H')
  | none=>none
 | _,_=>none
end
end Go.AL
namespace Go.AL
open Go
section
variable {P:Program}
theorem picks_get {α:Type} {l:List α}:∀ {ks:List Nat} {vs:List α},picks l ks=some vs→vs.length=ks.length∧∀ (i k:Nat),ks[i]? = some k→∃ v,vs[i]? = some v∧l[k]? = some v
 | [],vs,h=>by simp [picks] at h;subst h;exact ⟨rfl,fun i k h=>by simp at h⟩
 | k::ks,vs,h=>by
  simp only [picks] at h
  cases h1:l[k]? with
  | none=>rw [h1] at h;cases h
  | some v =>
   cases h2:picks l ks with
   | none=>rw [h1,h2] at h;cases h
   | some us =>
    rw [h1,h2] at h;simp at h;subst h
    obtain ⟨g1,g2⟩:=picks_get h2
    refine ⟨by simp [g1],fun i m hi=>?_⟩
    cases i with
    | zero=>simp at hi;subst hi;exact ⟨v,rfl,h1⟩
    | succ i=>simpa using g2 i m (by simpa using hi)
theorem posIn_get {ks:List Nat}:∀ {m i j:Nat},kap.posIn i ks m=some j→m≤j∧ks[j-m]? = some i:=by
 induction ks with
 | nil=>intro m i j h;cases h
 | cons k ks ih =>
  intro m i j h
  simp only [kap.posIn] at h
  cases hb:Nat.beq k i with
  | true =>
   rw [hb] at h;simp at h;subst h
   have:=Nat.eq_of_beq_eq_true hb
   subst this;simp
  | false =>
   rw [hb] at h;simp at h
   obtain ⟨h1,h2⟩:=ih h
   refine ⟨by omega,?_⟩
   rw [show j-m=(j-(m+1))+1 by omega]
   simpa using h2
theorem posIn_none {ks:List Nat}:∀ {m i:Nat},kap.posIn i ks m=none→∀ (j:Nat),ks[j]? ≠ some i:=by
 induction ks with
 | nil=>intro m i h j hj;simp at hj
 | cons k ks ih =>
  intro m i h j hj
  simp only [kap.posIn] at h
  cases hb:Nat.beq k i with
  | true=>rw [hb] at h;simp at h
  | false =>
   rw [hb] at h;simp at h
   cases j with
   | zero=>simp at hj;subst hj;simp at hb
   | succ j=>exact ih h j (by simpa using hj)
theorem finOs_get {κ:Nat→Option Nat} {H:List AObj} {wk:Bool}:∀ {os os':List AObj},finOs κ H wk os=some os'→os'.length=os.length∧∀ (i:Nat) (o:AObj),os'[i]? = some o→∃ o0,os[i]? = some o0∧finO κ H wk o0=some o
 | [],os',h=>by simp [finOs] at h;subst h;exact ⟨rfl,fun i o h=>by simp at h⟩
 | x::xs,os',h=>by
  simp only [finOs] at h
  cases h1:finO κ H wk x with
  | none=>rw [h1] at h;cases h
  | some v =>
   cases h2:finOs κ H wk xs with
   | none=>rw [h1,h2] at h;cases h
   | some us =>
    rw [h1,h2] at h;simp at h;subst h
    obtain ⟨g1,g2⟩:=finOs_get h2
    refine ⟨by simp [g1],fun i o hi=>?_⟩
    cases i with
    | zero=>simp at hi;subst hi;exact ⟨x,rfl,h1⟩
    | succ i=>simpa using g2 i o (by simpa using hi)
def keepOk (n:Nat) (ks:List Nat):Bool:=ks.all (fun k=>Nat.ble n k)&&nodupB ks
where nodupB:List Nat→Bool
 | []=>true
 | k::ks=>!(ks.any (Nat.beq k))&&nodupB ks
theorem nodupB_inj:∀ {ks:List Nat},keepOk.nodupB ks=true→∀ (i j k:Nat),ks[i]? = some k→ks[j]? = some k→i=j
 | [],_,i,j,k,h,_=>by simp at h
 | x::xs,hn,i,j,k,hi,hj=>by
  simp only [keepOk.nodupB,Bool.and_eq_true,Bool.not_eq_true'] at hn
  have hx:∀ (m:Nat),xs[m]? ≠ some x:=fun m hm=>by
   have:xs.any (Nat.beq x)=true:=List.any_eq_true.2 ⟨x,List.mem_of_getElem? hm,by simp⟩
   rw [this] at hn;simp at hn
  cases i with
  | zero =>
   simp at hi;subst hi
   cases j with
   | zero=>rfl
   | succ j=>exact absurd (by simpa using hj) (hx j)
  | succ i =>
   cases j with
   | zero=>simp at hj;subst hj;exact absurd (by simpa using hi) (hx i)
   | succ j=>have:=nodupB_inj hn.2 i j k (by simpa using hi) (by simpa using hj);omega
theorem finish_came1 {ext:Nat→Prop} {w0 w:World} {β0 β:List Ent} {H H':List AObj} {r r':AVal} {u:Value} {n:Nat} {ks:List Nat} {wk:Bool} (hI:Inv ext w H β) (hs:Step w0 β0 w β) (hn:β0.length≤n) (hnle:n≤β.length)
  (hr:Rel (ctx ext w β) r u) (hko:keepOk n ks=true) (h:finish n ks wk H r=some (r',H')):∃ β',Rel (ctx ext w β') r' u∧Inv ext w H' β'∧Step w0 β0 w β'∧∀ b,Blk β' b→Blk β b:=by
 unfold finish at h
 cases h1:finV (kap n ks) H wk r with
 | none=>rw [h1] at h;cases h
 | some v =>
  cases h2:picks H ks with
  | none=>rw [h1,h2] at h;cases h
  | some hs2 =>
   rw [h1,h2] at h
   simp only at h
   cases h3:finOs (kap n ks) H wk (H.take n++hs2) with
   | none=>rw [h3] at h;cases h
   | some G =>
    rw [h3] at h;simp at h
    obtain ⟨rfl,rfl⟩:=h
    obtain ⟨p1,p2⟩:=picks_get h2
    simp only [keepOk,Bool.and_eq_true] at hko
    obtain ⟨ko1,ko2⟩:=hko
    -- the entries that stay
    have hent:∀ k∈ks,∃ e,β[k]? = some e:=fun k hk=>by
     obtain ⟨i,hi,hik⟩:=List.getElem_of_mem hk
     obtain ⟨o,_,ho⟩:=p2 i k (by rw [List.getElem?_eq_getElem hi,hik])
     have:k < β.length:=by rw [hI.len];exact (List.getElem?_eq_some_iff.1 ho).1
     exact ⟨_,List.getElem?_eq_getElem this⟩
    let β':List Ent:=β.take n++ks.map (fun k=>β.getD k ⟨none,0,1,0,0⟩)
    have hlo:∀ (i:Nat),i < n→β'[i]? = β[i]?:=fun i hi=>by
     show (β.take n++_)[i]? = _
     rw [List.getElem?_append_left (by simp;omega),List.getElem?_take,if_pos hi]
    have hhi:∀ (i k:Nat),ks[i]? = some k→β'[n+i]? = β[k]?:=fun i k hi=>by
     show (β.take n++_)[n+i]? = _
     have hl:(β.take n).length=n:=by simp;omega
     rw [List.getElem?_append_right (by omega),hl,Nat.add_sub_cancel_left,List.getElem?_map,hi]
     obtain ⟨e,he⟩:=hent k (List.mem_of_getElem? hi)
     simp [he]
    have hlen:β'.length=n+ks.length:=by simp [β'];omega
    have hcl:∀ (i:Nat) (e:Ent),β'[i]? = some e→(i < n∧β[i]? = some e)∨∃ j k,i=n+j∧ks[j]? = some k∧β[k]? = some e:=fun i e hi=>by
     rcases Nat.lt_or_ge i n with hlt|hge
     ·exact .inl ⟨hlt,by rw [←hlo i hlt];exact hi⟩
     ·have hi':i < n+ks.length:=by rw [←hlen];exact (List.getElem?_eq_some_iff.1 hi).1
      have hj:i-n < ks.length:=by omega
      refine .inr ⟨i-n,ks[i-n],by omega,List.getElem?_eq_getElem hj,?_⟩
      rw [←hhi (i-n) _ (List.getElem?_eq_getElem hj),show n+(i-n)=i by omega];exact hi
    have hge:∀ (j k:Nat),ks[j]? = some k→n≤k:=fun j k hk=>by
     have:=List.all_eq_true.1 ko1 k (List.mem_of_getElem? hk)
     exact Nat.le_of_ble_eq_true this
    have hsub:∀ b,Blk β' b→Blk β b:=fun b ⟨i,e,hi,he⟩=>by
     rcases hcl i e hi with ⟨_,h4⟩|⟨j,k,_,_,h4⟩
     ·exact ⟨i,e,h4,he⟩
     ·exact ⟨k,e,h4,he⟩
    have hsrc:∀ (i:Nat) (e:Ent),β'[i]? = some e→∃ m,β[m]? = some e∧kap n ks m=some i∨False:=fun i e hi=>by
     rcases hcl i e hi with ⟨h4,h5⟩|⟨j,k,h4,h5,h6⟩
     ·exact ⟨i,.inl ⟨h5,by simp [kap,Nat.blt,Nat.ble_eq_true_of_le h4]⟩⟩
     ·have hk:=hge j k h5
      refine ⟨k,.inl ⟨h6,?_⟩⟩
      have hb:Nat.blt k n=false:=by
       cases hb:Nat.blt k n with
       | false=>rfl
       | true=>have:=Nat.le_of_ble_eq_true hb;omega
      simp only [kap,hb,cond_false]
      cases hp:kap.posIn k ks n with
      | none=>exact absurd h5 (posIn_none hp j)
      | some m =>
       obtain ⟨h7,h8⟩:=posIn_get hp
       have:=nodupB_inj ko2 j (m-n) k h5 h8
       rw [h4];congr 1;omega
    have hfin:FinOk ext w H β β' (kap n ks):=by
     refine ⟨fun i j e hi he=>?_,hsub,fun i e b hi he hb ⟨m,f,hm,hf⟩=>?_⟩
     ·unfold kap at hi
      cases hb:Nat.blt i n with
      | true =>
       rw [hb] at hi;simp at hi;subst hi
       rw [hlo i (Nat.le_of_ble_eq_true hb)];exact he
      | false =>
       rw [hb] at hi;simp at hi
       obtain ⟨h7,h8⟩:=posIn_get hi
       have:=hhi (j-n) i h8
       rw [show n+(j-n)=j by omega] at this
       rw [this];exact he
     ·obtain ⟨q,hq⟩:=hsrc m f hm
      rcases hq with ⟨q1,q2⟩|hq
      ·have:=hI.uniq q i f e b q1 he hf hb
       subst this
       rw [hi] at q2;cases q2
      ·exact hq
    obtain ⟨g1,g2⟩:=finOs_get h3
    have hGlen:G.length=n+ks.length:=by rw [g1,List.length_append,p1,List.length_take,←hI.len];omega
    have hle:Ctx.le { ctx ext w β with β:=[] } { ctx ext w β' with β:=[] }:=hfin.le
    refine ⟨β',finV_rel hI hfin _ _ _ h1 hr,⟨by rw [hlen,hGlen],?_,?_,?_⟩,?_,hsub⟩
    ·intro i o e ho he
     obtain ⟨o0,ho0,hof⟩:=g2 i o ho
     refine finO_rel hI hfin hof ?_
     rcases hcl i e he with ⟨h4,h5⟩|⟨j,k,h4,h5,h6⟩
     ·have hl:(H.take n).length=n:=by rw [List.length_take,←hI.len];omega
      rw [List.getElem?_append_left (by omega),List.getElem?_take,if_pos h4] at ho0
      exact hI.obj i o0 e ho0 h5
     ·have hl:(H.take n).length=n:=by rw [List.length_take,←hI.len];omega
      rw [List.getElem?_append_right (by omega),hl] at ho0
      obtain ⟨o1,q1,q2⟩:=p2 j k h5
      rw [show i-n=j by omega,q1] at ho0
      simp at ho0;subst ho0
      exact hI.obj k o1 e q2 h6
    ·intro i j e f b hi hj he hf
     obtain ⟨x,hx⟩:=hsrc i e hi
     obtain ⟨y,hy⟩:=hsrc j f hj
     rcases hx with ⟨x1,x2⟩|hx
     ·rcases hy with ⟨y1,y2⟩|hy
      ·have:=hI.uniq x y e f b x1 y1 he hf
       subst this
       rw [x2] at y2;simpa using y2
      ·exact hy.elim
     ·exact hx.elim
    ·exact fun b hb=>hI.sep b (hsub b hb)
    ·refine ⟨hs.os,hs.tape,hs.output,hs.size,hs.keep,fun b hb=>hs.fresh b (hsub b hb),fun j e he=>?_⟩
     obtain ⟨e',h4,h5⟩:=hs.ents j e he
     exact ⟨e',by rw [hlo j (Nat.lt_of_lt_of_le (List.getElem?_eq_some_iff.1 he).1 hn)];exact h4,h5⟩
theorem finish_came0 {ext:Nat→Prop} {w0 w:World} {β0 β:List Ent} {H H':List AObj} {r r':AVal} {u:Value} {n:Nat} {ks:List Nat} {wk:Bool} {k:AVal→ARes} (hI:Inv ext w H β) (hs:Step w0 β0 w β) (hn:β0.length≤n) (hnle:n≤β.length)
  (hr:Rel (ctx ext w β) r u) (hko:keepOk n ks=true) (h:finish n ks wk H r=some (r',H')):Came ext w0 β0 (fun q G=>q=k r'∧G=H') k u w:=by
 obtain ⟨β',h1,h2,h3,_⟩:=finish_came1 hI hs hn hnle hr hko h
 exact ⟨r',H',β',⟨rfl,rfl⟩,h1,h2,h3⟩
theorem Step.lens {w w':World} {β β':List Ent} (h:Step w β w' β'):β.length≤β'.length:=by
 rcases Nat.lt_or_ge β'.length β.length with hlt|hge
 ·exfalso
  obtain ⟨e',he',_⟩:=h.ents β'.length _ (List.getElem?_eq_getElem hlt)
  simp at he'
 ·exact hge
theorem finish_came {ext:Nat→Prop} {w0 w:World} {β0 β:List Ent} {H H':List AObj} {r r':AVal} {u:Value} {n:Nat} {ks:List Nat} {wk:Bool} {k:AVal→ARes} (hI:Inv ext w H β) (hs:Step w0 β0 w β) (hn:β0.length=n)
  (hr:Rel (ctx ext w β) r u) (hko:keepOk n ks=true) (h:finish n ks wk H r=some (r',H')):Came ext w0 β0 (fun q G=>q=k r'∧G=H') k u w :=
 finish_came0 hI hs (by omega) (by have:=hs.lens;omega) hr hko h
def BodyQ (tab:List TyRow) (rs:List ResultVar) (n:Nat) (Q:Eff):APost
 | .ret,F,H | .normal,F,H=>∃ r r' H' ks wk,resA tab rs F H=some r∧keepOk n ks=true∧finish n ks wk H r=some (r',H')∧Q (.ret r') H'
 | .panic v,F,H=>∃ r' H' ks wk,keepOk n ks=true∧finish n ks wk H v=some (r',H')∧Q (.pan r') H'
 | _,_,_=>False
theorem res1_run [T:TyTab P] {G:Gh} {β:List Ent} {F:Fr} {H:List AObj} {a:Act} {w:World} (hs:StB G β F H a w):∀ (r:ResultVar) (v:AVal),resA1 T.tab F H r=some v →
  ∃ u,(match r with | .tmp t=>pure (a.tmps.getD t undef) | .cell q t=>do loadVar t (←asAddr (a.tmps.getD q undef)):Sem Value).run P w = .ok u w∧Rel (ctx G.ext w β) v u
 | .tmp t,v,h=>by
  refine ⟨a.tmps.getD t undef,rfl,?_⟩
  have:ev F (.tmp t)=some v:=h
  exact hs.ev this
 | .cell q t,v,h=>by
  simp only [resA1,loadB] at h
  split at h
  ·rename_i j off r h1 h2
   split at h
   ·rename_i bt cs h3
    have hu0:=hs.ev (x:=.tmp q) h1
    obtain ⟨e,b,us,he,hb,hu,hc,hr,_⟩:=box_of hs.inv h3 hu0
    obtain ⟨u,h4,h5⟩:=takeA_load (P:=P) h2 hr h (w:=w) (b:=b) (o:=0) (fun i u hi=>by
     simp only [World.cell?,hc,Nat.zero_add,Option.isSome_none,Bool.false_eq_true,if_false]
     simpa using hi)
    simp only [Nat.zero_add] at h4
    refine ⟨u,?_,h5⟩
    have hu':a.tmps.getD q undef = .pointer (some ⟨b,off,none⟩):=hu
    simp only [Sem.run_bind,hu',asAddr,Sem.run_pure,Result.andThen_ok,h4]
   ·cases h
  ·cases h
theorem resAs_run [T:TyTab P] {G:Gh} {β:List Ent} {F:Fr} {H:List AObj} {a:Act} {w:World} (hs:StB G β F H a w):∀ (rs:List ResultVar) (vs:List AVal),resAs T.tab F H rs=some vs →
  ∃ us,(rs.mapM (fun r=>match r with | .tmp t=>pure (a.tmps.getD t undef) | .cell q t=>do loadVar t (←asAddr (a.tmps.getD q undef)):ResultVar→Sem Value)).run P w = .ok us w∧RelL (ctx G.ext w β) vs us
 | [],vs,h=>by simp [resAs] at h;subst h;exact ⟨[],rfl,rfl⟩
 | r::rs,vs,h=>by
  simp only [resAs] at h
  cases h1:resA1 T.tab F H r with
  | none=>rw [h1] at h;cases h
  | some v =>
   cases h2:resAs T.tab F H rs with
   | none=>rw [h1,h2] at h;cases h
   | some us =>
    rw [h1,h2] at h;simp at h;subst h
    obtain ⟨u,h3,h4⟩:=res1_run hs r v h1
    obtain ⟨us',h5,h6⟩:=resAs_run hs rs us h2
    refine ⟨u::us',?_,u,us',rfl,h4,h6⟩
    simp only [List.mapM_cons,Sem.run_bind]
    rw [h3]
    simp only [Result.andThen_ok]
    rw [h5]
    rfl
theorem res_run [T:TyTab P] {G:Gh} {β:List Ent} {F:Fr} {H:List AObj} {a:Act} {w:World} (hs:StB G β F H a w) {fn:Func} {r:AVal} (h:resA T.tab fn.results.toList F H=some r) :
  ∃ u,(results fn a.tmps).run P w = .ok u w∧Rel (ctx G.ext w β) r u:=by
 unfold resA at h
 cases h1:resAs T.tab F H fn.results.toList with
 | none=>rw [h1] at h;cases h
 | some vs =>
  rw [h1] at h
  obtain ⟨us,h2,h3⟩:=resAs_run hs _ _ h1
  have hm:(results fn a.tmps).run P w = .ok (if h:us.toArray.size=1 then us.toArray[0] else .tuple us.toArray) w:=by
   unfold results
   rw [Array.mapM_eq_mapM_toList]
   simp only [Sem.run_bind,Sem.run_map]
   generalize hR:Sem.run P (List.mapM _ fn.results.toList) w=R
   have hR2:R = .ok us w:=by rw [←hR];exact h2
   rw [hR2]
   rfl
  cases vs with
  | nil =>
   cases h3
   simp at h;subst h
   exact ⟨_,hm,#[],rfl,rfl⟩
  | cons v vs =>
   obtain ⟨u,us',rfl,h4,h5⟩:=h3
   cases vs with
   | nil =>
    cases h5
    simp at h;subst h
    exact ⟨u,hm,h4⟩
   | cons x xs =>
    obtain ⟨u2,us2,rfl,h6,h7⟩:=h5
    simp at h;subst h
    refine ⟨.tuple (u::u2::us2).toArray,?_,_,rfl,u,u2::us2,rfl,h4,u2,us2,rfl,h6,h7⟩
    rw [hm];simp
theorem StB.shut {G:Gh} {β:List Ent} {F:Fr} {H:List AObj} {a a':Act} {w:World} {r:Nat} (h:StB G β F H a w) (hr:G.w0.heap.size≤r) (hlt:r < w.heap.size) (hb:¬bad G.ext β r) (hd:w.heap[r]? = some (.deferred (some [])))
  (ht:a'.tmps=a.tmps) (hm:Marks G β a' (w.putObj r (.deferred none))) :
  StB G β F H a' (w.putObj r (.deferred none))∧(ctx G.ext w β).le (ctx G.ext (w.putObj r (.deferred none)) β):=by
 have hsz:(w.putObj r (.deferred none)).heap.size=w.heap.size:=by simp [World.putObj]
 have hle:(ctx G.ext w β).le (ctx G.ext (w.putObj r (.deferred none)) β):=by
  refine ⟨fun b h1 h2=>⟨by rw [hsz];exact h1,h2,?_⟩,fun j e he=>⟨e,he,Nat.le_refl _,fun _=>rfl,fun _=>rfl⟩⟩
  by_cases hbr:b=r
  ·subst hbr
   exact .inr ⟨_,_,hd,World.putObj_heap_same hlt⟩
  ·exact .inl (World.putObj_heap_other hbr)
 have hne:∀ b,Blk β b→b≠r:=fun b hB e=>hb (.inr (e ▸ hB))
 refine ⟨⟨⟨h.inv.len,fun j o e ho he=>(h.inv.obj j o e ho he).le hle fun b hb'=>World.putObj_heap_other (hne b ⟨j,e,he,hb'⟩),h.inv.uniq,fun b hB=>⟨(h.inv.sep b hB).1,by rw [hsz];exact (h.inv.sep b hB).2⟩⟩,
  ⟨h.step.os,h.step.tape,h.step.output,by rw [hsz];exact h.step.size,fun b hb' hn=>(World.putObj_heap_other (by omega)).trans (h.step.keep b hb' hn),h.step.fresh,h.step.ents⟩,
  fun b hB=>by rw [hsz];exact h.extOk b hB,by rw [ht];exact h.size,hm,fun t v hv=>?_⟩,hle⟩
 obtain ⟨u,h1,h2⟩:=h.get t v hv
 exact ⟨u,by rw [ht];exact h1,h2.le hle⟩
theorem leaves_marks {P:Program} {G:Gh} {β:List Ent} {F:Fr} {H:List AObj} {fn:Func} {R:Ending→World→Prop} {m:FrameMode} (hu:m ≠ .run) (hG:G.defers=[]) (hnm:G.nm=false) :
  ∀ (ms:List Nat) (a:Act) (w:World),ms.Nodup→a.defers=ms.map coll→(∀ r∈ms,G.w0.heap.size≤r∧r < w.heap.size∧¬bad G.ext β r∧w.heap[r]? = some (.deferred (some [])))→StB G β F H a w →
   (∀ a' w',a'.tmps=a.tmps→StB G β F H a' w'→(ctx G.ext w β).le (ctx G.ext w' β)→LeavesIn Fence.wide 0 P fn a.tmps R [] m w')→LeavesInM Fence.wide 0 P fn a.tmps R a.defers m w
 | [],a,w,_,hd,_,hs,he=>by
  rw [hd]
  exact he a w rfl hs ⟨fun b h1 h2=>⟨h1,h2,.inl rfl⟩,fun j e h=>⟨e,h,Nat.le_refl _,fun _=>rfl,fun _=>rfl⟩⟩
 | r::ms,a,w,hn,hd,hr,hs,he=>by
  obtain ⟨k1,k2,k3,k4⟩:=hr r (List.mem_cons_self ..)
  have hn':=List.nodup_cons.1 hn
  have hsz:(w.putObj r (.deferred none)).heap.size=w.heap.size:=by simp [World.putObj]
  have hr':∀ r'∈ms,G.w0.heap.size≤r'∧r' < (w.putObj r (.deferred none)).heap.size∧¬bad G.ext β r'∧(w.putObj r (.deferred none)).heap[r']? = some (.deferred (some [])):=fun r' hm=>by
   obtain ⟨l1,l2,l3,l4⟩:=hr r' (List.mem_cons_of_mem _ hm)
   exact ⟨l1,by rw [hsz];exact l2,l3,(World.putObj_heap_other (fun (e:r'=r)=>hn'.1 (by rw [←e];exact hm))).trans l4⟩
  obtain ⟨hs',hle⟩:=hs.shut (a':={ a with defers:=ms.map coll }) k1 k2 k3 k4 rfl ⟨ms,hn'.2,by simp [hG],hr',fun h=>by rw [hnm] at h;cases h⟩
  rw [hd]
  refine ⟨hu,.inl ⟨r,_,rfl,run_takeDeferred k4,?_⟩⟩
  refine leaves_marks hu hG hnm ms { a with defers:=ms.map coll } _ hn'.2 rfl hr' hs' fun a' w' h1 h2 h3=>he a' w' h1 h2 ⟨fun b q1 q2=>?_,fun j e h=>⟨e,h,Nat.le_refl _,fun _=>rfl,fun _=>rfl⟩⟩
  obtain ⟨g1,g2,g3⟩:=hle.old b q1 q2
  obtain ⟨f1,f2,f3⟩:=h3.old b g1 g2
  refine ⟨f1,f2,?_⟩
  rcases g3 with g3|⟨d,d',g3,g4⟩
  ·rcases f3 with f3|⟨e,e',f3,f4⟩
   ·exact .inl (f3.trans g3)
   ·exact .inr ⟨e,e',by rw [←g3];exact f3,f4⟩
  ·rcases f3 with f3|⟨e,e',f3,f4⟩
   ·exact .inr ⟨d,d',g3,f3.trans g4⟩
   ·exact .inr ⟨d,e',g3,f4⟩
theorem acalls_intro [T:TyTab P] {f:FuncId} {fn:Func} {c:Code} {args:List AVal} {H:List AObj} {Q:Eff} {N:Nat} {rs:List ResultVar} (hf:P.funcs[f]? = some fn) (hb:fn.body=some c) (hname:(fn.name == "runtime.NumGoroutine")=false)
  (hN:fn.ntmps=N) (hl:Nat.ble args.length N=true) (hrs:fn.results.toList=rs)
  (h:∀ w0 β0 ext,β0.length=H.length→AW P ⟨w0,β0,ext,N,[],none,false⟩ c (BodyQ T.tab rs H.length Q) (params 0 args) H):ACalls P f args H Q:=by
 refine ⟨⟨fn,hf,hname,by rw [hb];rfl⟩,fun ext w β us hI hx hr=>?_⟩
 have hlen:=hr.length
 have hl':=Nat.le_of_ble_eq_true hl
 refine (callsIn_wide (n:=0)).1 (callsIn_of_wp_marks hf hb trivial ?_)
 let G:Gh:=⟨w,β,ext,N,[],none,false⟩
 have hst:St G (params 0 args) H { tmps:=us.toArray++Array.replicate (fn.ntmps-us.toArray.size) undef,defers:=[] } w:=by
  refine ⟨β,hI,Step.refl w β,hx,?_,⟨[],List.nodup_nil,rfl,fun r hr=>by simp at hr,fun _=>rfl⟩,fun t v ht=>?_⟩
  ·show (us.toArray++Array.replicate (fn.ntmps-us.toArray.size) undef).size=N
   simp;omega
  ·obtain ⟨_,h1⟩:=params_get ht
   rw [Nat.sub_zero] at h1
   obtain ⟨u,h2,h3⟩:=hr.get h1
   have hlt:t < us.length:=(List.getElem?_eq_some_iff.1 h2).1
   refine ⟨u,?_,h3⟩
   show (us.toArray++Array.replicate (fn.ntmps-us.toArray.size) undef)[t]? = some u
   rw [Array.getElem?_append_left (by simpa using hlt)]
   simpa using h2
 refine wpIn_mono (h w β ext hI.len _ w hst) ?_
 have hn:β.length=H.length:=hI.len
 have key:∀ a' w',(∃ F' H',(∃ r r' Ho ks wk,resA T.tab rs F' H'=some r∧keepOk H.length ks=true∧finish H.length ks wk H' r=some (r',Ho)∧Q (.ret r') Ho)∧St G F' H' a' w') →
   LeavesInM Fence.wide 0 P fn a'.tmps (Ended ext w β Q) a'.defers .returning w':=by
  rintro a' w' ⟨F',H',⟨r,r',Ho,ks,wk,h1,h2,h3,h4⟩,β',hs⟩
  subst hrs
  obtain ⟨ms,m1,m2,m3,_⟩:=hs.defers
  refine leaves_marks (by simp) rfl rfl ms a' w' m1 (by simpa [G] using m2) m3 hs fun a2 w2 e2 hs2 _=>?_
  obtain ⟨u,h5,h6⟩:=res_run hs2 h1
  rw [e2] at h5
  exact ⟨u,h5,Came.mono (fun q G' ⟨e1,e2⟩=>by subst e1;subst e2;exact h4) (finish_came (k:=.ret) hs2.inv hs2.step hn h6 h2 h3)⟩
 intro e a' w' he
 cases e with
 | normal=>exact key a' w' he
 | ret=>exact key a' w' he
 | exit id=>obtain ⟨F',H',h1,_⟩:=he;exact h1.elim
 | goto l=>exact he.elim
 | outgrown=>exact he.elim
 | panic ch =>
  obtain ⟨v,F',H',β',u,⟨r',Ho,ks,wk,h2,h3,h4⟩,hs,h5,h6⟩:=he
  obtain ⟨ms,m1,m2,m3,_⟩:=hs.defers
  refine leaves_marks (by simp) rfl rfl ms a' w' m1 (by simpa [G] using m2) m3 hs fun a2 w2 e2 hs2 hle=>?_
  exact ⟨u,h5,Came.mono (fun q G' ⟨e1,e2⟩=>by subst e1;subst e2;exact h4) (finish_came (k:=.pan) hs2.inv hs2.step hn (h6.le hle) h2 h3)⟩
end
end Go.AL
namespace Go.AL
open Go
section
variable {P:Program} {G:Gh} {ops:Array Oper} {Q:APost}
def kindOf:Op→K
 | .load ..=>.r
 | .alloc _ | .box .. | .makeSlice .. | .makeMap ..=>.x
 | .call { callee:=.builtin .append,.. }=>.x
 | .call { callee:=.builtin .len,.. } | .call { callee:=.builtin .min,.. } | .call { callee:=.builtin .max,.. }=>.p
 | .call { callee:=.value _,.. }=>.p
 | .call _ | .store .. | .mapUpdate .. | .mapEntry .. | .entryStore .. | .insert ..=>.m
 | .lookup ..=>.s
 | _=>.p
def plan (l:List Oper):List (Nat × K)→List (Nat × Oper × K)
 | []=>[]
 | (i,k)::r=>(i,l.getD i default,k)::plan l r
def plan0:Nat→List Oper→List (Nat × Oper × K)
 | _,[]=>[]
 | i,o::r=>(i,o,kindOf o.op)::plan0 (i+1) r
def waits (o:Oper) (i:Nat):Bool:=o.after.toList.any fun e=>Region.binds .any e&&Nat.beq e.on i
def drawGo (ops:Array Oper):List (Nat × Oper × K)→List (Nat × Oper × K)→Bool
 | _,[]=>true
 | ahead,x::r=>x.2.1.after.toList.all (fun e=>!Region.binds .any e||(ahead.any (fun y=>Nat.beq y.1 e.on)))&&Nat.blt x.1 ops.size && !(ahead.any (fun y=>Nat.beq y.1 x.1)) &&
   ahead.all (fun y=>waits x.2.1 y.1||(y.2.1.apart ops x.2.1&&y.2.2.apart x.2.2))&&drawGo ops (x::ahead) r
def drawOk (l:List Oper) (L:List (Nat × Oper × K)):Bool:=Nat.beq L.length l.length&&drawGo l.toArray [] L
theorem drawGo_split {ops:Array Oper}:∀ {L ahead:List (Nat × Oper × K)},drawGo ops ahead L=true→∀ (L1:List (Nat × Oper × K)) (x:Nat × Oper × K) (L2:List (Nat × Oper × K)),L=L1++x::L2 →
  (∀ e∈x.2.1.after,Region.binds .any e=true→∃ y∈L1.reverse++ahead,y.1=e.on)∧x.1 < ops.size∧(∀ y∈L1.reverse++ahead,y.1≠x.1) ∧
   ∀ y∈L1.reverse++ahead,(∃ e∈x.2.1.after,Region.binds .any e=true∧e.on=y.1)∨(y.2.1.apart ops x.2.1=true∧y.2.2.apart x.2.2=true)
 | [],ahead,_,L1,x,L2,h=>by cases L1<;>simp at h
 | z::r,ahead,hg,L1,x,L2,h=>by
  simp only [drawGo,Bool.and_eq_true] at hg
  obtain ⟨⟨⟨⟨g1,g2⟩,g3⟩,g4⟩,g5⟩:=hg
  cases L1 with
  | nil =>
   simp at h
   obtain ⟨rfl,rfl⟩:=h
   refine ⟨fun e he hb=>?_,?_,fun y hy hyz=>?_,fun y hy=>?_⟩
   ·have:=List.all_eq_true.1 g1 e (by simpa using he)
    rw [hb] at this
    simp only [Bool.not_true,Bool.false_or] at this
    obtain ⟨y,hy,hye⟩:=List.any_eq_true.1 this
    exact ⟨y,by simpa using hy,Nat.eq_of_beq_eq_true hye⟩
   ·exact Nat.le_of_ble_eq_true g2
   ·have:ahead.any (fun y=>Nat.beq y.1 z.1)=true:=List.any_eq_true.2 ⟨y,by simpa using hy,by rw [hyz];simp⟩
    rw [this] at g3;simp at g3
   ·have:=List.all_eq_true.1 g4 y (by simpa using hy)
    simp only [Bool.or_eq_true,Bool.and_eq_true] at this
    rcases this with h1|h1
    ·obtain ⟨e,he,hb⟩:=List.any_eq_true.1 h1
     simp only [Bool.and_eq_true] at hb
     exact .inl ⟨e,by simpa using he,hb.1,Nat.eq_of_beq_eq_true hb.2⟩
    ·exact .inr h1
  | cons z' L1 =>
   simp at h
   obtain ⟨rfl,rfl⟩:=h
   have:=drawGo_split g5 L1 x L2 rfl
   simpa using this
theorem drawGo_nodup {ops:Array Oper}:∀ {L ahead:List (Nat × Oper × K)},drawGo ops ahead L=true→(L.map (·.1)).Nodup∧∀ x∈L,∀ y∈ahead,y.1≠x.1
 | [],ahead,_=>⟨List.nodup_nil,fun x hx=>by simp at hx⟩
 | z::r,ahead,hg=>by
  have h0:=drawGo_split hg [] z r rfl
  simp only [drawGo,Bool.and_eq_true] at hg
  obtain ⟨h1,h2⟩:=drawGo_nodup hg.2
  refine ⟨?_,fun x hx y hy=>?_⟩
  ·rw [List.map_cons,List.nodup_cons]
   refine ⟨fun hm=>?_,h1⟩
   obtain ⟨x,hx,hxz⟩:=List.mem_map.1 hm
   exact h2 x hx z (List.mem_cons_self ..) hxz.symm
  ·cases List.mem_cons.1 hx with
   | inl e=>subst e;exact h0.2.2.1 y (by simpa using hy)
   | inr hm=>exact h2 x hm y (List.mem_cons_of_mem _ hy)
theorem nodup_le:∀ (n:Nat) (l:List Nat),l.Nodup→(∀ x∈l,x < n)→l.length≤n
 | 0,l,_,hb=>by cases l with|nil=>simp|cons x l=>exact absurd (hb x (List.mem_cons_self ..)) (by omega)
 | n+1,l,hn,hb=>by
  by_cases h:n∈l
  ·have h1:=nodup_le n (l.erase n) (hn.erase n) (fun x hx=>by
    have h2:=(hn.mem_erase_iff).1 hx
    have:=hb x h2.2
    have:=h2.1
    omega)
   rw [List.length_erase_of_mem h] at h1
   omega
  ·have:=nodup_le n l hn (fun x hx=>by
    have:=hb x hx
    have:x≠n:=fun e=>h (e ▸ hx)
    omega)
   omega
theorem nodup_full {l:List Nat} {n:Nat} (hn:l.Nodup) (hl:l.length=n) (hb:∀ x∈l,x < n):∀ i,i < n→i∈l:=by
 intro i hi
 by_cases h:i∈l
 ·exact h
 ·exfalso
  have:=nodup_le n (i::l) (List.nodup_cons.2 ⟨h,hn⟩) (fun x hx=>by
   cases List.mem_cons.1 hx with
   | inl e=>subst e;exact hi
   | inr hm=>exact hb x hm)
  simp at this;omega
theorem aw_drawL [T:TyTab P] {id:Nat} {l:List Oper} {L:List (Nat × Oper × K)} {F:Fr} {H:List AObj} (hops:∀ x∈L,l.toArray[x.1]? = some x.2.1) (hc:drawOk l L=true)
  (h:AWD P G l.toArray (fun F H=>Q .normal F H) L F H):AW P G (.region id l.toArray true) Q F H:=by
 intro a w hs
 simp only [drawOk,Bool.and_eq_true] at hc
 obtain ⟨c1,c2⟩:=hc
 have c1:=Nat.eq_of_beq_eq_true c1
 obtain ⟨n1,_⟩:=drawGo_nodup c2
 let Q':APost:=fun e F H=>∃ F0,FrEq F0 F∧Q e F0 H
 have hQ':∀ F F' H,FrEq F F'→Q' .normal F H→Q' .normal F' H:=fun F F' H he ⟨F0,h0,h1⟩=>⟨F0,fun t=>(h0 t).trans (he t),h1⟩
 have h':AWD P G l.toArray (Q' .normal) L F H:=by
  have:∀ (L:List (Nat × Oper × K)) (F:Fr) (H:List AObj),AWD P G l.toArray (fun F H=>Q .normal F H) L F H→AWD P G l.toArray (Q' .normal) L F H:=by
   intro L
   induction L with
   | nil=>intro F H h;exact ⟨F,fun _=>rfl,h⟩
   | cons x r ih=>intro F H ⟨hd,v,H1,h1,h2⟩;exact ⟨hd,v,H1,h1,ih _ _ h2⟩
  exact this L F H h
 have hsame:∀ (w':World),SameMem w w'→St G F H a w':=fun w' hw=>by
  obtain ⟨β,hs⟩:=hs
  exact ⟨β,hs.world (hs.inv.same hw) (hw.step β)⟩
 refine wpIn_mono (wpIn_region_any T.mixed (Q:=lift G Q') ?_) ?_
 ·refine awd_any hQ' _ L _ F H (by simpa using c1) ⟨by simp,fun i hi=>?_⟩ hops n1 ?_ h' a _ (hsame _ (drew_same w))
  ·have hm:i∈L.map (·.1):=nodup_full n1 (by simpa using c1) (fun y hy=>by
    obtain ⟨x,hx,rfl⟩:=List.mem_map.1 hy
    have:=(Array.getElem?_eq_some_iff.1 (hops x hx)).1
    simpa using this) i (by simpa using hi)
   obtain ⟨x,hx,hxi⟩:=List.mem_map.1 hm
   have hi':i < l.length:=by simpa using hi
   constructor
   ·intro _;exact ⟨x,hx,hxi⟩
   ·intro _;simp [hi']
  ·intro L1 x L2 hL
   obtain ⟨s1,s2,s3,s4⟩:=drawGo_split c2 L1 x L2 hL
   simp only [List.append_nil] at s1 s3 s4
   refine ⟨fun y hy hyx e he hb hey=>?_,fun e he hb=>?_,fun y hy=>s4 y (by simpa using hy)⟩
   ·obtain ⟨z,hz,hze⟩:=s1 e he hb
    have hz':z∈L1:=by simpa using hz
    rw [hL] at n1
    simp only [List.map_append,List.map_cons] at n1
    rw [List.nodup_append] at n1
    exact n1.2.2 z.1 (List.mem_map.2 ⟨z,hz',rfl⟩) y.1 (List.mem_cons_of_mem _ (List.mem_map.2 ⟨y,hy,rfl⟩)) (hze.trans hey)
   ·obtain ⟨z,hz,hze⟩:=s1 e he hb
    have hz':z∈L:=by rw [hL];exact List.mem_append_left _ (by simpa using hz)
    have:=(Array.getElem?_eq_some_iff.1 (hops z hz')).1
    exact ⟨by rw [←hze];exact this,fun hex=>s3 z hz (hze.trans hex)⟩
 ·intro e a' w' he
  cases e with
  | normal=>obtain ⟨F',H',⟨F0,h0,h1⟩,h2⟩:=he;exact ⟨F0,H',h1,h2.eq (fun t=>(h0 t).symm)⟩
  | ret=>obtain ⟨F',H',⟨F0,h0,h1⟩,h2⟩:=he;exact ⟨F0,H',h1,h2.eq (fun t=>(h0 t).symm)⟩
  | exit id=>obtain ⟨F',H',⟨F0,h0,h1⟩,h2⟩:=he;exact ⟨F0,H',h1,h2.eq (fun t=>(h0 t).symm)⟩
  | panic ch =>
   obtain ⟨v,F',H',β,u,⟨F0,h0,h1⟩,h2,h3,h4⟩:=he
   exact ⟨v,F0,H',β,u,h1,⟨h2.inv,h2.step,h2.extOk,h2.size,h2.defers,fun t v ht=>h2.get t v (by rw [←h0 t];exact ht)⟩,h3,h4⟩
  | goto l=>exact he.elim
  | outgrown=>exact he.elim
theorem plan_ops {l:List Oper}:∀ {pl:List (Nat × K)},pl.all (fun x=>Nat.blt x.1 l.length)=true→∀ x∈plan l pl,l.toArray[x.1]? = some x.2.1
 | [],_,x,h=>by simp [plan] at h
 | (i,k)::r,hb,x,h=>by
  simp only [List.all_cons,Bool.and_eq_true] at hb
  simp only [plan] at h
  cases List.mem_cons.1 h with
  | inl e =>
   subst e
   have:=Nat.le_of_ble_eq_true hb.1
   have hlt:i < l.length:=this
   simp [List.getD,hlt]
  | inr hm=>exact plan_ops hb.2 x hm
theorem plan0_ops {l:List Oper}:∀ (r:List Oper) (i:Nat),(∀ j:Nat,r[j]? = l[i+j]?)→∀ x∈plan0 i r,l.toArray[x.1]? = some x.2.1
 | [],i,_,x,h=>by simp [plan0] at h
 | o::r,i,hr,x,h=>by
  simp only [plan0] at h
  cases List.mem_cons.1 h with
  | inl e=>subst e;have:=hr 0;simpa using this.symm
  | inr hm=>exact plan0_ops r (i+1) (fun j=>by have:=hr (j+1);simpa [Nat.add_assoc,Nat.add_comm 1 j] using this) x hm
theorem aw_draw [T:TyTab P] {id:Nat} {l:List Oper} {F:Fr} {H:List AObj} (hc:drawOk l (plan0 0 l)=true)
  (h:AWD P G l.toArray (fun F H=>Q .normal F H) (plan0 0 l) F H):AW P G (.region id l.toArray true) Q F H :=
 aw_drawL (plan0_ops l 0 (fun j=>by simp)) hc h
theorem aw_drawP [T:TyTab P] {id:Nat} {l:List Oper} (pl:List (Nat × K)) {F:Fr} {H:List AObj} (hp:pl.all (fun x=>Nat.blt x.1 l.length)=true) (hc:drawOk l (plan l pl)=true)
  (h:AWD P G l.toArray (fun F H=>Q .normal F H) (plan l pl) F H):AW P G (.region id l.toArray true) Q F H :=
 aw_drawL (plan_ops hp) hc h
section
variable {R:Fr→List AObj→Prop} {i:Nat} {l:List (Nat × Oper × K)}
end
theorem bodyQ_ret {tab:List TyRow} {rs:List ResultVar} {n:Nat} {E:Eff} {F:Fr} {H H':List AObj} {r r':AVal} (ks:List Nat) (wk:Bool) (h1:resA tab rs F H=some r) (h2:keepOk n ks=true) (h3:finish n ks wk H r=some (r',H'))
  (h4:E (.ret r') H'):BodyQ tab rs n E .ret F H:=⟨r,r',H',ks,wk,h1,h2,h3,h4⟩
theorem bodyQ_end {tab:List TyRow} {rs:List ResultVar} {n:Nat} {E:Eff} {F:Fr} {H H':List AObj} {r r':AVal} (ks:List Nat) (wk:Bool) (h1:resA tab rs F H=some r) (h2:keepOk n ks=true) (h3:finish n ks wk H r=some (r',H'))
  (h4:E (.ret r') H'):BodyQ tab rs n E .normal F H:=⟨r,r',H',ks,wk,h1,h2,h3,h4⟩
theorem one_ok {v v':AVal} {H H':List AObj} (hv:v'=v) (hH:H'=H):one v H (.ret v') H':=⟨by rw [hv],hH⟩
theorem index_map [T:TyTab P] {dst:Option Tmp} {t:TypeId} {x i:Operand} {type:TypeId} {pos:String} {after:Array Edge} {guard:Option (Nat × Bool)} {F:Fr} {H:List AObj} {a:AVal} {α:Type} {enc:α→AVal} {l:List α} {y:α} {k:IntKind} {n:Int} {e:TypeId} {r r':TyRow}
  (hx:ev F x=some a) (ha:xsOf a=some (l.map enc)) (hi:ev F i=some (.v (.int k n))) (ht:tfind T.tab t=some r') (hd:r'.d = .slice e) (he:tfind T.tab e=some r) (h0:0≤n) (hy:l[n.toNat]? = some y)
  (hl:(enc y).cells.length=r.size) (hf:(enc y).flat=true):DSem P .p ⟨dst,.indexAddr t x i,type,pos,after,guard⟩ F H (.pp (enc y).cells 0) H :=
 index_sl hx ha hi ht hd he hl hf h0 (by rw [List.getElem?_map,hy];rfl)
theorem wrap_id {n:Int} (h1 : -9223372036854775808≤n) (h2:n≤9223372036854775807):IntKind.i64.wrap n=n:=by
 rw [IntKind.wrap_i64];omega
end
end Go.AL
namespace Go.AL
open Go
section
variable {P:Program}
mutual
def rnV (τ:Nat→Nat):AVal→AVal
 | .v x=>.v x
 | .agg cs=>.agg (rnL τ cs)
 | .tup cs=>.tup (rnL τ cs)
 | .sl xs=>.sl xs
 | .slf xs=>.slf xs
 | .slz xs=>.slz xs
 | .arr j g=>.arr (τ j) g
 | .ptr j off=>.ptr (τ j) off
 | .pp cs off=>.pp cs off
 | .ep j g k off=>.ep (τ j) g k off
 | .fn f a b=>.fn f (rnL τ a) (rnL τ b)
 | .mp j=>.mp (τ j)
 | .hd j g off len=>.hd (τ j) g off len
 | .bs j off len cap=>.bs (τ j) off len cap
 | .ifc t x=>.ifc t (rnV τ x)
def rnL (τ:Nat→Nat):List AVal→List AVal
 | []=>[]
 | x::xs=>rnV τ x::rnL τ xs
end
mutual
def ltV (n:Nat):AVal→Bool
 | .v _ | .sl _ | .slf _ | .slz _ | .pp _ _=>true
 | .agg cs | .tup cs=>ltL n cs
 | .arr j _ | .ptr j _ | .ep j _ _ _ | .mp j | .hd j _ _ _ | .bs j _ _ _=>Nat.blt j n
 | .fn _ a b=>ltL n a&&ltL n b
 | .ifc _ x=>ltV n x
def ltL (n:Nat):List AVal→Bool
 | []=>true
 | x::xs=>ltV n x&&ltL n xs
end
def rnM (τ:Nat→Nat):List (Value × AVal)→List (Value × AVal)
 | []=>[]
 | (k,x)::es=>(k,rnV τ x)::rnM τ es
def ltM (n:Nat):List (Value × AVal)→Bool
 | []=>true
 | (_,x)::es=>ltV n x&&ltM n es
def rnO (τ:Nat→Nat):AObj→AObj
 | .box t cs=>.box t (rnL τ cs)
 | .map es=>.map (rnM τ es)
 | .loop l st pend s vs=>.loop l st pend s (rnL τ vs)
 | o=>o
def ltO (n:Nat):AObj→Bool
 | .box _ cs=>ltL n cs
 | .map es=>ltM n es
 | .loop _ _ _ _ vs=>ltL n vs
 | _=>true
theorem rnL_one {τ:Nat→Nat}:∀ {cs:List AVal},(rnL τ cs).all AVal.one=cs.all AVal.one
 | []=>rfl
 | x::xs=>by
  simp only [rnL,List.all_cons,rnL_one (cs:=xs)]
  cases x<;>rfl
structure Into (c c':Ctx) (τ:Nat→Nat) (n:Nat):Prop where
 w:c'.w=c.w
 bad:c'.bad=c.bad
 get:∀ i,i < n→c'.β[i]? = c.β[τ i]?
mutual
theorem rnV_into {c c':Ctx} {τ:Nat→Nat} {n:Nat} (h:Into c c' τ n):∀ (a:AVal) (u:Value),ltV n a=true→Rel c (rnV τ a) u→Rel c' a u
 | .v x,u,_,r=>r
 | .agg cs,u,hl,r=>by
  obtain ⟨a,e,r⟩:=r
  exact ⟨a,e,rnL_into h cs _ hl r⟩
 | .tup cs,u,hl,r=>by
  obtain ⟨a,e,r⟩:=r
  exact ⟨a,e,rnL_into h cs _ hl r⟩
 | .sl xs,u,_,r=>by
  obtain ⟨A,m,es,h1,h2,h3,h4⟩:=r
  refine ⟨A,m,es,h1,h2,?_,?_⟩
  ·unfold baseOk;rw [h.w,h.bad];exact h3
  ·rw [h.w,h.bad];exact h4
 | .slz xs,u,_,r=>by
  obtain ⟨A,m,es,h1,h2,h3,h4,h5⟩:=r
  refine ⟨A,m,es,h1,h2,?_,?_,h5⟩
  ·unfold baseOk;rw [h.w,h.bad];exact h3
  ·rw [h.w,h.bad];exact h4
 | .slf xs,u,_,r=>by
  obtain ⟨A,es,h1,h3,h4⟩:=r
  refine ⟨A,es,h1,?_,?_⟩
  ·unfold baseOk;rw [h.w,h.bad];exact h3
  ·rw [h.w,h.bad];exact h4
 | .arr j g,u,hl,r=>by
  obtain ⟨h0,e,he,hg,hu⟩:=r
  exact ⟨h0,e,by rw [h.get j (Nat.le_of_ble_eq_true hl)];exact he,hg,hu⟩
 | .ptr j off,u,hl,r=>by
  obtain ⟨e,b,he,hu⟩:=r
  exact ⟨e,b,by rw [h.get j (Nat.le_of_ble_eq_true hl)];exact he,hu⟩
 | .pp cs off,u,_,r=>by
  obtain ⟨b,o,us,h1,h2,h3,h4,h5⟩:=r
  refine ⟨b,o,us,h1,?_,?_,?_,?_⟩
  ·rw [h.bad];exact h2
  ·rw [h.w];exact h3
  ·rw [h.w,h.bad];exact h4
  ·rw [h.w];exact h5
 | .ep j g k off,u,hl,r=>by
  obtain ⟨h0,e,he,hg,hu⟩:=r
  exact ⟨h0,e,by rw [h.get j (Nat.le_of_ble_eq_true hl)];exact he,hg,hu⟩
 | .fn f a b,u,hl,r=>by
  obtain ⟨a1,a2,e,r1,r2⟩:=r
  simp only [ltV,Bool.and_eq_true] at hl
  exact ⟨a1,a2,e,rnL_into h a _ hl.1 r1,rnL_into h b _ hl.2 r2⟩
 | .bs j off len cap,u,hl,r=>by
  obtain ⟨e,b,he,hu⟩:=r
  exact ⟨e,b,by rw [h.get j (Nat.le_of_ble_eq_true hl)];exact he,hu⟩
 | .hd j g off len,u,hl,r=>by
  obtain ⟨h0,e,he,hg,hu⟩:=r
  exact ⟨h0,e,by rw [h.get j (Nat.le_of_ble_eq_true hl)];exact he,hg,hu⟩
 | .mp j,u,hl,r=>by
  obtain ⟨e,b,he,hu⟩:=r
  exact ⟨e,b,by rw [h.get j (Nat.le_of_ble_eq_true hl)];exact he,hu⟩
 | .ifc t x,u,hl,r=>by
  obtain ⟨y,e,r⟩:=r
  exact ⟨y,e,rnV_into h x y hl r⟩
theorem rnL_into {c c':Ctx} {τ:Nat→Nat} {n:Nat} (h:Into c c' τ n):∀ (asL:List AVal) (us:List Value),ltL n asL=true→RelL c (rnL τ asL) us→RelL c' asL us
 | [],us,_,r=>r
 | x::xs,us,hl,r=>by
  obtain ⟨u,us',e,r,rs⟩:=r
  simp only [ltL,Bool.and_eq_true] at hl
  exact ⟨u,us',e,rnV_into h x u hl.1 r,rnL_into h xs us' hl.2 rs⟩
end
structure Outof (c c':Ctx) (τ:Nat→Nat):Prop where
 w:c'.w=c.w
 bad:c'.bad=c.bad
 get:∀ (i:Nat) (e:Ent),c.β[i]? = some e→c'.β[τ i]? = some e
mutual
theorem rnV_out {c c':Ctx} {τ:Nat→Nat} (h:Outof c c' τ):∀ (a:AVal) (u:Value),Rel c a u→Rel c' (rnV τ a) u
 | .v x,u,r=>r
 | .agg cs,u,r=>by
  obtain ⟨a,e,r⟩:=r
  exact ⟨a,e,rnL_out h cs _ r⟩
 | .tup cs,u,r=>by
  obtain ⟨a,e,r⟩:=r
  exact ⟨a,e,rnL_out h cs _ r⟩
 | .sl xs,u,r=>by
  obtain ⟨A,m,es,h1,h2,h3,h4⟩:=r
  refine ⟨A,m,es,h1,h2,?_,?_⟩
  ·unfold baseOk;rw [h.w,h.bad];exact h3
  ·rw [h.w,h.bad];exact h4
 | .slz xs,u,r=>by
  obtain ⟨A,m,es,h1,h2,h3,h4,h5⟩:=r
  refine ⟨A,m,es,h1,h2,?_,?_,h5⟩
  ·unfold baseOk;rw [h.w,h.bad];exact h3
  ·rw [h.w,h.bad];exact h4
 | .slf xs,u,r=>by
  obtain ⟨A,es,h1,h3,h4⟩:=r
  refine ⟨A,es,h1,?_,?_⟩
  ·unfold baseOk;rw [h.w,h.bad];exact h3
  ·rw [h.w,h.bad];exact h4
 | .arr j g,u,r=>by
  obtain ⟨h0,e,he,hg,hu⟩:=r
  exact ⟨h0,e,h.get j e he,hg,hu⟩
 | .ptr j off,u,r=>by
  obtain ⟨e,b,he,hu⟩:=r
  exact ⟨e,b,h.get j e he,hu⟩
 | .pp cs off,u,r=>by
  obtain ⟨b,o,us,h1,h2,h3,h4,h5⟩:=r
  refine ⟨b,o,us,h1,?_,?_,?_,?_⟩
  ·rw [h.bad];exact h2
  ·rw [h.w];exact h3
  ·rw [h.w,h.bad];exact h4
  ·rw [h.w];exact h5
 | .ep j g k off,u,r=>by
  obtain ⟨h0,e,he,hg,hu⟩:=r
  exact ⟨h0,e,h.get j e he,hg,hu⟩
 | .fn f a b,u,r=>by
  obtain ⟨a1,a2,e,r1,r2⟩:=r
  exact ⟨a1,a2,e,rnL_out h a _ r1,rnL_out h b _ r2⟩
 | .bs j off len cap,u,r=>by
  obtain ⟨e,b,he,hu⟩:=r
  exact ⟨e,b,h.get j e he,hu⟩
 | .hd j g off len,u,r=>by
  obtain ⟨h0,e,he,hg,hu⟩:=r
  exact ⟨h0,e,h.get j e he,hg,hu⟩
 | .mp j,u,r=>by
  obtain ⟨e,b,he,hu⟩:=r
  exact ⟨e,b,h.get j e he,hu⟩
 | .ifc t x,u,r=>by
  obtain ⟨y,e,r⟩:=r
  exact ⟨y,e,rnV_out h x y r⟩
theorem rnL_out {c c':Ctx} {τ:Nat→Nat} (h:Outof c c' τ):∀ (asL:List AVal) (us:List Value),RelL c asL us→RelL c' (rnL τ asL) us
 | [],us,r=>r
 | x::xs,us,r=>by
  obtain ⟨u,us',e,r,rs⟩:=r
  exact ⟨u,us',e,rnV_out h x u r,rnL_out h xs us' rs⟩
end
theorem rnM_into {c c':Ctx} {τ:Nat→Nat} {n:Nat} (h:Into c c' τ n):∀ (es:List (Value × AVal)) (ms:List MapEntry),ltM n es=true→RelM c (rnM τ es) ms→RelM c' es ms
 | [],ms,_,r=>r
 | (k,x)::es,ms,hl,r=>by
  obtain ⟨m,ms',e,e1,r,rs⟩:=r
  simp only [ltM,Bool.and_eq_true] at hl
  exact ⟨m,ms',e,e1,rnV_into h x _ hl.1 r,rnM_into h es ms' hl.2 rs⟩
theorem rnM_out {c c':Ctx} {τ:Nat→Nat} (h:Outof c c' τ):∀ (es:List (Value × AVal)) (ms:List MapEntry),RelM c es ms→RelM c' (rnM τ es) ms
 | [],ms,r=>r
 | (k,x)::es,ms,r=>by
  obtain ⟨m,ms',e,e1,r,rs⟩:=r
  exact ⟨m,ms',e,e1,rnV_out h x _ r,rnM_out h es ms' rs⟩
theorem rnO_into {c c':Ctx} {τ:Nat→Nat} {n:Nat} (h:Into c c' τ n) {e:Ent} {o:AObj} (hl:ltO n o=true) (r:RelO c e (rnO τ o)):RelO c' e o:=by
 cases o with
 | box t cs =>
  obtain ⟨h1,h2,b,us,h3,h4,h5⟩:=r
  exact ⟨h1,by rw [←rnL_one (τ:=τ)];exact h2,b,us,h3,by rw [h.w];exact h4,rnL_into h cs _ hl h5⟩
 | arr g t es xs =>
  obtain ⟨k1,k0,k2,k3,k4,k5⟩:=r
  refine ⟨k1,k0,k2,k3,k4,?_⟩
  cases hb:e.blk with
  | none=>rw [hb] at k5;exact k5
  | some b =>
   rw [hb] at k5
   obtain ⟨us,w1,w2,w3⟩:=k5
   exact ⟨us,by rw [h.w];exact w1,w2,by rw [h.w,h.bad];exact w3⟩
 | raw x o=>obtain ⟨h1,h2,h3⟩:=r;exact ⟨h1,h2,by rw [h.w];exact h3⟩
 | loop l st pend s vs=>obtain ⟨h1,h2,tmps,us,h3,h4,h5,h6⟩:=r;exact ⟨h1,h2,tmps,us,by rw [h.w];exact h3,h4,rnL_into h vs _ hl h5,h6⟩
 | fix x o=>obtain ⟨h1,h2,h3,h4,h5,h6⟩:=r;exact ⟨h1,h2,by rw [h.w];exact h3,h4,by rw [h.bad];exact h5,by rw [h.w];exact h6⟩
 | map es=>obtain ⟨h1,b,ms,k,h2,h3,h4⟩:=r;exact ⟨h1,b,ms,k,h2,by rw [h.w];exact h3,rnM_into h es _ hl h4⟩
 | dead g=>exact r
 | vmap es=>obtain ⟨h1,b,ms,k,h2,h3,h4⟩:=r;exact ⟨h1,b,ms,k,h2,by rw [h.w];exact h3,h4.vals⟩
 | row g t es xs =>
  obtain ⟨h1,h0,h2,hl,h3,b,us,h4,h5,h6,h7⟩:=r
  exact ⟨h1,h0,h2,hl,h3,b,us,h4,by rw [h.w];exact h5,h6,by rw [h.w,h.bad];exact h7⟩
theorem rnO_out {c c':Ctx} {τ:Nat→Nat} (h:Outof c c' τ) {e:Ent} {o:AObj} (r:RelO c e o):RelO c' e (rnO τ o):=by
 cases o with
 | box t cs =>
  obtain ⟨h1,h2,b,us,h3,h4,h5⟩:=r
  exact ⟨h1,by rw [rnL_one];exact h2,b,us,h3,by rw [h.w];exact h4,rnL_out h cs _ h5⟩
 | arr g t es xs =>
  obtain ⟨k1,k0,k2,k3,k4,k5⟩:=r
  refine ⟨k1,k0,k2,k3,k4,?_⟩
  cases hb:e.blk with
  | none=>rw [hb] at k5;exact k5
  | some b =>
   rw [hb] at k5
   obtain ⟨us,w1,w2,w3⟩:=k5
   exact ⟨us,by rw [h.w];exact w1,w2,by rw [h.w,h.bad];exact w3⟩
 | raw x o=>obtain ⟨h1,h2,h3⟩:=r;exact ⟨h1,h2,by rw [h.w];exact h3⟩
 | loop l st pend s vs=>obtain ⟨h1,h2,tmps,us,h3,h4,h5,h6⟩:=r;exact ⟨h1,h2,tmps,us,by rw [h.w];exact h3,h4,rnL_out h vs _ h5,h6⟩
 | fix x o=>obtain ⟨h1,h2,h3,h4,h5,h6⟩:=r;exact ⟨h1,h2,by rw [h.w];exact h3,h4,by rw [h.bad];exact h5,by rw [h.w];exact h6⟩
 | map es=>obtain ⟨h1,b,ms,k,h2,h3,h4⟩:=r;exact ⟨h1,b,ms,k,h2,by rw [h.w];exact h3,rnM_out h es _ h4⟩
 | dead g=>exact r
 | vmap es=>obtain ⟨h1,b,ms,k,h2,h3,h4⟩:=r;exact ⟨h1,b,ms,k,h2,by rw [h.w];exact h3,h4.vals⟩
 | row g t es xs =>
  obtain ⟨h1,h0,h2,hl,h3,b,us,h4,h5,h6,h7⟩:=r
  exact ⟨h1,h0,h2,hl,h3,b,us,h4,by rw [h.w];exact h5,h6,by rw [h.w,h.bad];exact h7⟩
def tau (σ:List Nat) (N:Nat) (i:Nat):Nat:=match σ[i]? with
 | some j=>j
 | none=>N+(i-σ.length)
def putBack (τ:Nat→Nat):List Nat→List AObj→List AObj→List AObj
 | [],Hc,Ho=>Hc++Ho.map (rnO τ)
 | j::σ,Hc,o::Ho=>putBack τ σ (Hc.set j (rnO τ o)) Ho
 | _::σ,Hc,[]=>Hc
def sigOk (σ:List Nat) (N:Nat):Bool:=σ.all (Nat.blt · N)&&keepOk.nodupB σ
theorem putBack_get {τ:Nat→Nat}:∀ {σ:List Nat} {Hc Ho:List AObj},keepOk.nodupB σ=true→(∀ j∈σ,j < Hc.length)→σ.length≤Ho.length →
  (putBack τ σ Hc Ho).length=Hc.length+(Ho.length-σ.length)∧(∀ (i j:Nat) (o:AObj),σ[i]? = some j→Ho[i]? = some o→(putBack τ σ Hc Ho)[j]? = some (rnO τ o)) ∧
   (∀ j,j < Hc.length→j ∉ σ→(putBack τ σ Hc Ho)[j]? = Hc[j]?)∧(∀ k,(putBack τ σ Hc Ho)[Hc.length+k]? = (Ho[σ.length+k]?).map (rnO τ))
 | [],Hc,Ho,_,_,_=>by
  refine ⟨by simp [putBack],fun i j o h=>by simp at h,fun j hj _=>?_,fun k=>?_⟩
  ·simp only [putBack];rw [List.getElem?_append_left hj]
  ·simp only [putBack];rw [List.getElem?_append_right (by omega)];simp
 | j::σ,Hc,[],_,_,hl=>by simp at hl
 | j::σ,Hc,o::Ho,hn,hb,hl=>by
  simp only [keepOk.nodupB,Bool.and_eq_true,Bool.not_eq_true'] at hn
  have hj:j < Hc.length:=hb j (List.mem_cons_self ..)
  have hjn:j ∉ σ:=fun hm=>by
   have:σ.any (Nat.beq j)=true:=List.any_eq_true.2 ⟨j,hm,by simp⟩
   rw [this] at hn;simp at hn
  obtain ⟨g1,g2,g3,g4⟩:=putBack_get (τ:=τ) (σ:=σ) (Hc:=Hc.set j (rnO τ o)) (Ho:=Ho) hn.2 (fun k hk=>by simpa using hb k (List.mem_cons_of_mem _ hk)) (by simpa using hl)
  simp only [List.length_set] at g1 g3 g4
  refine ⟨by simp only [putBack,g1,List.length_cons];omega,fun i k q hi hq=>?_,fun k hk hkn=>?_,fun k=>?_⟩
  ·simp only [putBack]
   cases i with
   | zero =>
    simp at hi hq;subst hi;subst hq
    rw [g3 j hj hjn,List.getElem?_set_self hj]
   | succ i=>exact g2 i k q (by simpa using hi) (by simpa using hq)
  ·simp only [putBack]
   have hkj:k≠j:=fun e=>hkn (e ▸ List.mem_cons_self ..)
   rw [g3 k hk (fun hm=>hkn (List.mem_cons_of_mem _ hm)),List.getElem?_set_ne (by omega)]
  ·simp only [putBack]
   rw [g4 k,show (j::σ).length+k=(σ.length+k)+1 by rw [List.length_cons];omega]
   rfl
def idxOf (σ:List Nat) (j:Nat):Option Nat:=kap.posIn j σ 0
theorem idxOf_some {σ:List Nat} {i j:Nat} (h:idxOf σ j=some i):σ[i]? = some j:=by
 obtain ⟨_,h2⟩:=posIn_get h
 simpa using h2
theorem idxOf_none {σ:List Nat} {j:Nat} (h:idxOf σ j=none):j ∉ σ:=fun hm=>by
 obtain ⟨i,hi,hij⟩:=List.getElem_of_mem hm
 exact posIn_none h i (by rw [List.getElem?_eq_getElem hi,hij])
theorem idxOf_get {σ:List Nat} (hn:keepOk.nodupB σ=true) {i j:Nat} (h:σ[i]? = some j):idxOf σ j=some i:=by
 cases hx:idxOf σ j with
 | none=>exact absurd (List.mem_of_getElem? h) (idxOf_none hx)
 | some k=>rw [nodupB_inj hn i k j h (idxOf_some hx)]
theorem ACalls.from {f:FuncId} {args:List AVal} {H Hc:List AObj} {Q:Eff} (h:ACalls P f args H Q) (σ:List Nat) (hσ:sigOk σ Hc.length=true) (hl:σ.length=H.length)
  (ha:ltL σ.length args=true) (ho:H.all (ltO σ.length)=true) (hH:∀ (i j:Nat),σ[i]? = some j→Hc[j]? = (H[i]?).map (rnO (tau σ Hc.length))) :
  ACalls P f (rnL (tau σ Hc.length) args) Hc (fun r G=>∃ r0 Ho,Q r0 Ho∧σ.length≤Ho.length∧G=putBack (tau σ Hc.length) σ Hc Ho∧r=match r0 with | .ret v=>.ret (rnV (tau σ Hc.length) v) | .pan v=>.pan (rnV (tau σ Hc.length) v)):=by
 simp only [sigOk,Bool.and_eq_true] at hσ
 obtain ⟨s1,s2⟩:=hσ
 have s1:∀ j∈σ,j < Hc.length:=fun j hj=>Nat.le_of_ble_eq_true (List.all_eq_true.1 s1 j hj)
 refine ⟨h.enters,fun ext w β us hI hext hr=>?_⟩
 have hlen:=hI.len
 let τ:=tau σ Hc.length
 have hτ:∀ (i j:Nat),σ[i]? = some j→τ i=j:=fun i j hi=>by show tau σ Hc.length i=j;simp [tau,hi]
 have hτn:∀ (i:Nat),σ.length≤i→τ i=Hc.length+(i-σ.length):=fun i hi=>by
  show tau σ Hc.length i=_
  simp [tau,List.getElem?_eq_none hi]
 let β':List Ent:=σ.map (fun j=>β.getD j ⟨none,0,1,0,0⟩)
 have hβ':∀ (i j:Nat),σ[i]? = some j→β'[i]? = β[j]?:=fun i j hi=>by
  have hj:j < β.length:=by rw [hlen];exact s1 j (List.mem_of_getElem? hi)
  show (σ.map _)[i]? = _
  rw [List.getElem?_map,hi]
  simp [List.getD,hj]
 have hβl:β'.length=σ.length:=by simp [β']
 let ext':Nat→Prop:=fun b=>ext b∨∃ (j:Nat) (e:Ent),β[j]? = some e∧e.blk=some b∧j ∉ σ
 have hcl:∀ (i:Nat) (e:Ent),β'[i]? = some e→∃ j,σ[i]? = some j∧β[j]? = some e:=fun i e hi=>by
  have hlt:i < σ.length:=by rw [←hβl];exact (List.getElem?_eq_some_iff.1 hi).1
  exact ⟨σ[i],List.getElem?_eq_getElem hlt,by rw [←hβ' i _ (List.getElem?_eq_getElem hlt)];exact hi⟩
 have hblk:∀ b,Blk β' b→∃ (j:Nat) (e:Ent),β[j]? = some e∧e.blk=some b∧j∈σ:=fun b ⟨i,e,hi,he⟩=>by
  obtain ⟨j,h1,h2⟩:=hcl i e hi
  exact ⟨j,e,h2,he,List.mem_of_getElem? h1⟩
 have hblk2:∀ (j:Nat) (e:Ent) (b:Nat),β[j]? = some e→e.blk=some b→j∈σ→Blk β' b:=fun j e b h1 h2 h3=>by
  obtain ⟨i,hi,hij⟩:=List.getElem_of_mem h3
  have hi':σ[i]? = some j:=by rw [List.getElem?_eq_getElem hi,hij]
  exact ⟨i,e,by rw [hβ' i j hi'];exact h1,h2⟩
 have hbad:bad ext' β'=bad ext β:=by
  funext b
  apply propext
  constructor
  ·rintro ((h1|⟨j,e,h1,h2,_⟩)|h1)
   ·exact .inl h1
   ·exact .inr ⟨j,e,h1,h2⟩
   ·obtain ⟨j,e,h2,h3,_⟩:=hblk b h1;exact .inr ⟨j,e,h2,h3⟩
  ·rintro (h1|⟨j,e,h1,h2⟩)
   ·exact .inl (.inl h1)
   ·by_cases hj:j∈σ
    ·exact .inr (hblk2 j e b h1 h2 hj)
    ·exact .inl (.inr ⟨j,e,h1,h2,hj⟩)
 have hinto:Into (ctx ext w β) (ctx ext' w β') τ σ.length:=⟨rfl,hbad,fun i hi=>by
  have:=List.getElem?_eq_getElem hi
  rw [hτ i _ this]
  exact hβ' i _ this⟩
 have hI':Inv ext' w H β':=by
  refine ⟨by rw [hβl,hl],fun j o e hj he=>?_,fun i j e g b hi hj he hg=>?_,fun b hb=>?_⟩
  ·obtain ⟨k,h1,h2⟩:=hcl j e he
   have h3:=hH j k h1
   rw [hj] at h3
   exact rnO_into hinto (List.all_eq_true.1 ho o (List.mem_of_getElem? hj)) (hI.obj k _ e h3 h2)
  ·obtain ⟨a,a1,a2⟩:=hcl i e hi
   obtain ⟨c,c1,c2⟩:=hcl j g hj
   have:=hI.uniq a c e g b a2 c2 he hg
   subst this
   exact nodupB_inj s2 i j a a1 c1
  ·obtain ⟨j,e,h1,h2,h3⟩:=hblk b hb
   obtain ⟨h4,h5⟩:=hI.sep b ⟨j,e,h1,h2⟩
   refine ⟨?_,h5⟩
   rintro (h6|⟨k,g,h6,h7,h8⟩)
   ·exact h4 h6
   ·have:=hI.uniq j k e g b h1 h6 h2 h7
    subst this
    exact h8 h3
 have hext':∀ b,ext' b→b < w.heap.size:=fun b hb=>by
  rcases hb with h1|⟨j,e,h1,h2,_⟩
  ·exact hext b h1
  ·exact (hI.sep b ⟨j,e,h1,h2⟩).2
 have hcall:=h.calls ext' w β' us hI' hext' (rnL_into hinto args us ha hr)
 refine hcall.mono fun e w' he=>?_
 -- the way back
 have back:∀ {k:AVal→ARes} {u:Value},(∀ v,(match k v with | .ret v=>ARes.ret (rnV τ v) | .pan v=>.pan (rnV τ v))=k (rnV τ v))→Came ext' w β' Q k u w' →
   Came ext w β (fun r G=>∃ r0 Ho,Q r0 Ho∧σ.length≤Ho.length∧G=putBack τ σ Hc Ho∧r=match r0 with | .ret v=>.ret (rnV τ v) | .pan v=>.pan (rnV τ v)) k u w':=by
  rintro k u hk ⟨v,Ho,β2,q1,q2,q3,q4⟩
  have h2len:=q3.len
  have hle:σ.length≤β2.length:=by
   rcases Nat.lt_or_ge β2.length σ.length with hlt|hge
   ·exfalso
    have hb:β2.length < β'.length:=by omega
    obtain ⟨e',he',_⟩:=q4.ents β2.length _ (List.getElem?_eq_getElem hb)
    simp at he'
   ·exact hge
  let βc:List Ent:=(List.range Hc.length).map (fun j=>match idxOf σ j with|some i=>β2.getD i ⟨none,0,1,0,0⟩|none=>β.getD j ⟨none,0,1,0,0⟩)++β2.drop σ.length
  have hin:∀ (i j:Nat),σ[i]? = some j→βc[j]? = β2[i]?:=fun i j hi=>by
   have hj:=s1 j (List.mem_of_getElem? hi)
   have hi2:i < β2.length:=Nat.lt_of_lt_of_le (List.getElem?_eq_some_iff.1 hi).1 hle
   show (_++_)[j]? = _
   rw [List.getElem?_append_left (by simpa using hj),List.getElem?_map,List.getElem?_range hj]
   simp [idxOf_get s2 hi,List.getD,hi2]
  have hout:∀ j,j < Hc.length→j ∉ σ→βc[j]? = β[j]?:=fun j hj hn=>by
   have hj2:j < β.length:=by omega
   show (_++_)[j]? = _
   rw [List.getElem?_append_left (by simpa using hj),List.getElem?_map,List.getElem?_range hj]
   cases hx:idxOf σ j with
   | some i=>exact absurd (List.mem_of_getElem? (idxOf_some hx)) hn
   | none=>simp [hx,List.getD,hj2]
  have hnew:∀ k,βc[Hc.length+k]? = β2[σ.length+k]?:=fun k=>by
   show (_++_)[Hc.length+k]? = _
   rw [List.getElem?_append_right (by simp)]
   simp
  have hcll:βc.length=Hc.length+(β2.length-σ.length):=by simp [βc]
  have hcls:∀ (j:Nat) (e:Ent),βc[j]? = some e→(∃ i,β2[i]? = some e∧τ i=j∧((σ[i]? = some j)∨(σ.length≤i∧j=Hc.length+(i-σ.length))))∨(j < Hc.length∧j ∉ σ∧β[j]? = some e):=fun j e hj=>by
   rcases Nat.lt_or_ge j Hc.length with hlt|hge
   ·cases hx:idxOf σ j with
    | some i =>
     have hi:=idxOf_some hx
     exact .inl ⟨i,by rw [←hin i j hi];exact hj,hτ i j hi,.inl hi⟩
    | none=>exact .inr ⟨hlt,idxOf_none hx,by rw [←hout j hlt (idxOf_none hx)];exact hj⟩
   ·have h4:=hnew (j-Hc.length)
    rw [show Hc.length+(j-Hc.length)=j by omega] at h4
    rw [h4] at hj
    refine .inl ⟨σ.length+(j-Hc.length),hj,?_,.inr ⟨by omega,by omega⟩⟩
    rw [hτn _ (by omega)];omega
  have hblk3:∀ b,Blk βc b→Blk β2 b∨∃ (j:Nat) (e:Ent),β[j]? = some e∧e.blk=some b∧j ∉ σ:=fun b ⟨j,e,hj,he⟩=>by
   rcases hcls j e hj with ⟨i,h1,_⟩|⟨h1,h2,h3⟩
   ·exact .inl ⟨i,e,h1,he⟩
   ·exact .inr ⟨j,e,h3,he,h2⟩
  have hfwd:∀ (i:Nat) (e:Ent),β2[i]? = some e→βc[τ i]? = some e:=fun i e hi=>by
   rcases Nat.lt_or_ge i σ.length with hlt|hge
   ·have:=List.getElem?_eq_getElem hlt
    rw [hτ i _ this,hin i _ this];exact hi
   ·rw [hτn i hge,hnew,show σ.length+(i-σ.length)=i by omega];exact hi
  have hbad2:bad ext βc=bad ext' β2:=by
   funext b
   apply propext
   constructor
   ·rintro (h1|h1)
    ·exact .inl (.inl h1)
    ·rcases hblk3 b h1 with h2|h2
     ·exact .inr h2
     ·exact .inl (.inr h2)
   ·rintro ((h1|⟨j,e,h1,h2,h3⟩)|⟨i,e,h1,h2⟩)
    ·exact .inl h1
    ·have hj:j < Hc.length:=by rw [←hlen];exact (List.getElem?_eq_some_iff.1 h1).1
     exact .inr ⟨j,e,by rw [hout j hj h3];exact h1,h2⟩
    ·exact .inr ⟨τ i,e,hfwd i e h1,h2⟩
  have hoo:Outof (ctx ext' w' β2) (ctx ext w' βc) τ:=⟨rfl,hbad2,hfwd⟩
  have hstep:Step w β w' βc:=by
   refine ⟨q4.os,q4.tape,q4.output,q4.size,fun b hb hn=>?_,fun b hb=>?_,fun j e hj=>?_⟩
   ·exact q4.keep b hb fun h1=>by
     obtain ⟨j,e,h2,h3,_⟩:=hblk b h1
     exact hn ⟨j,e,h2,h3⟩
   ·rcases hblk3 b hb with h1|⟨j,e,h1,h2,_⟩
    ·rcases q4.fresh b h1 with h2|h2
     ·obtain ⟨j,e,h3,h4,_⟩:=hblk b h2;exact .inl ⟨j,e,h3,h4⟩
     ·exact .inr h2
    ·exact .inl ⟨j,e,h1,h2⟩
   ·have hjlt:j < Hc.length:=by rw [←hlen];exact (List.getElem?_eq_some_iff.1 hj).1
    cases hx:idxOf σ j with
    | some i =>
     have hi:=idxOf_some hx
     obtain ⟨e',h1,h2⟩:=q4.ents i e (by rw [hβ' i j hi];exact hj)
     exact ⟨e',by rw [hin i j hi];exact h1,h2⟩
    | none=>exact ⟨e,by rw [hout j hjlt (idxOf_none hx)];exact hj,Nat.le_refl _,fun _=>rfl,fun _=>rfl⟩
  obtain ⟨p1,p2,p3,p4⟩:=putBack_get (τ:=τ) (σ:=σ) (Hc:=Hc) (Ho:=Ho) s2 s1 (by omega)
  have hlec:=hstep.le (ext:=ext)
  refine ⟨rnV τ v,putBack τ σ Hc Ho,βc,⟨k v,Ho,q1,by omega,rfl,(hk v).symm⟩,rnV_out hoo v u q2,⟨by rw [hcll,p1];omega,fun j o e hj he=>?_,fun i j e g b hi hj he hg=>?_,fun b hb=>?_⟩,hstep⟩
  ·rcases hcls j e he with ⟨i,h1,h2,h3⟩|⟨h1,h2,h3⟩
   ·have hi2:i < Ho.length:=by rw [←h2len];exact (List.getElem?_eq_some_iff.1 h1).1
    have hoi:=List.getElem?_eq_getElem hi2
    have:o=rnO τ Ho[i]:=by
     rcases h3 with h3|⟨h3,h4⟩
     ·have:=p2 i j _ h3 hoi;rw [hj] at this;simpa using this
     ·have:=p4 (i-σ.length)
      rw [←h4,hj,show σ.length+(i-σ.length)=i by omega,hoi] at this
      simpa using this
    rw [this]
    exact rnO_out hoo (q3.obj i _ e hoi h1)
   ·rw [p3 j h1 h2] at hj
    refine (hI.obj j o e hj h3).le hlec fun b hb=>?_
    refine q4.keep b (hI.sep b ⟨j,e,h3,hb⟩).2 fun h4=>?_
    obtain ⟨m,g,g1,g2,g3⟩:=hblk b h4
    have:=hI.uniq j m e g b h3 g1 hb g2
    subst this
    exact h2 g3
  ·have cross:∀ (i j:Nat) (e g:Ent),β2[i]? = some e→e.blk=some b→j ∉ σ→β[j]? = some g→g.blk=some b→False:=fun i j e g h1 h2 h3 h4 h5=>by
    have:=(q3.sep b ⟨i,e,h1,h2⟩).1
    exact this (.inr ⟨j,g,h4,h5,h3⟩)
   rcases hcls i e hi with ⟨a,a1,a2,_⟩|⟨a1,a2,a3⟩<;>rcases hcls j g hj with ⟨c,c1,c2,_⟩|⟨c1,c2,c3⟩
   ·have:=q3.uniq a c e g b a1 c1 he hg
    subst this
    rw [←a2,←c2]
   ·exact (cross a j e g a1 he c2 c3 hg).elim
   ·exact (cross c i g e c1 hg a2 a3 he).elim
   ·exact hI.uniq i j e g b a3 c3 he hg
  ·rcases hblk3 b hb with h1|⟨j,e,h1,h2,_⟩
   ·have:=q3.sep b h1
    exact ⟨fun hx=>this.1 (.inl hx),this.2⟩
   ·have:=hI.sep b ⟨j,e,h1,h2⟩
    exact ⟨this.1,Nat.lt_of_lt_of_le this.2 q4.size⟩
 cases e with
 | returned u=>exact back (k:=.ret) (fun v=>rfl) he
 | panicked ch=>obtain ⟨u,h1,h2⟩:=he;exact ⟨u,h1,back (k:=.pan) (fun v=>rfl) h2⟩
 | outgrown=>exact he
end
end Go.AL
end
