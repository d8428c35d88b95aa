/-
  Part 3 of the proof texts: the program logic over the model, then the contracts of the functions that the laws reach. No conditions.
-/
import Derived.Test.YteefnlbapebamaaGreatDoorF2
import Derived.Lib.Overlaps
import Derived.Lib.SliceRun
import Derived.Deep.Slices
import Derived.ReadAgain
import Derived.ChangeSame
import Derived.Below
set_option linter.unusedVariables false
set_option linter.unusedSimpArgs false
section
namespace Go.AL
open Go
section
variable {P:Program}
def intsV (xs:List Int):List Value:=xs.map fun x=>.int .i64 x
def valI (ag:Bool) (xs:List Int):Value:=cond ag (.agg (intsV xs).toArray) (.int .i64 (xs.headD 0))
def fieldsRun (tab:List TyRow) (ok:TypeId→Bool) (size:Nat):Nat→List Field→Bool
 | off,[]=>Nat.beq off size
 | off,f::fs=>Nat.beq f.offset off&&decide (f.name ≠ "_")&&ok f.type&&(match tfind tab f.type with
  | some r=>fieldsRun tab ok size (off+r.size) fs
  | none=>false)
def allInt (tab:List TyRow) (st:TypeId→Bool):Nat→TypeId→Bool
 | 0,_=>false
 | n+1,t=>match tfind tab t with
  | some r=>(match r.d with
   | .int .i64=>Nat.beq r.size 1
   | .struct fs=>!st t&&fieldsRun tab (allInt tab st n) r.size 0 fs.toList
   | _=>false)
  | none=>false
theorem part_ints [T:TyTab P] {t:TypeId} {r:TyRow} (h:tfind T.tab t=some r) {xs:List Int} {off:Nat} (hin:off+r.size≤xs.length) (hs:aggB r.d=false→r.size=1) (w:World) :
  (part t (intsV xs).toArray off).run P w = .ok (valI (aggB r.d) ((xs.drop off).take r.size)) w:=by
 unfold part
 simp only [Sem.run_bind,run_agg h,Result.andThen_ok]
 cases ha:aggB r.d with
 | true =>
  simp only [if_true,Sem.run_bind,run_size h,Result.andThen_ok,Sem.run_pure,valI,cond_true]
  congr 2
  apply Array.ext'
  simp [intsV,List.extract_eq_take_drop,List.map_take,List.map_drop]
 | false =>
  have h1:=hs ha
  simp only [Bool.false_eq_true,if_false]
  have hlt:off < xs.length:=by omega
  have:(intsV xs).toArray[off]? = some (.int .i64 xs[off]):=by simp [intsV,hlt]
  rw [this]
  simp only [Sem.run_pure,valI,cond_false]
  congr 2
  rw [h1]
  have:(xs.drop off).take 1=[xs[off]]:=by
   rw [List.drop_eq_getElem_cons hlt];rfl
  rw [this];rfl
theorem drop_split (xs ys:List Int) (off n:Nat):(xs.drop off=ys.drop off)↔((xs.drop off).take n=(ys.drop off).take n∧xs.drop (off+n)=ys.drop (off+n)):=by
 constructor
 ·intro h
  refine ⟨by rw [h],?_⟩
  rw [←List.drop_drop,←List.drop_drop,h]
 ·rintro ⟨h1,h2⟩
  rw [←List.take_append_drop n (xs.drop off),←List.take_append_drop n (ys.drop off),h1,List.drop_drop,List.drop_drop,h2]
theorem fieldsRun_le {tab:List TyRow} {ok:TypeId→Bool} {size:Nat}:∀ {fs:List Field} {off:Nat},fieldsRun tab ok size off fs=true→off≤size
 | [],off,h=>by have:=Nat.eq_of_beq_eq_true h;omega
 | f::fs,off,h=>by
  simp only [fieldsRun,Bool.and_eq_true] at h
  split at h
  ·have:=fieldsRun_le h.2;omega
  ·simp at h
def intsA (xs:List Int):List AVal:=xs.map fun x=>.v (.int .i64 x)
theorem intsA_rel {c:Ctx}:∀ {xs:List Int} {us:List Value},RelL c (intsA xs) us→us=intsV xs
 | [],us,h=>h
 | x::xs,us,h=>by
  obtain ⟨u,us',rfl,r,rs⟩:=h
  cases (r:u=_)
  rw [intsA_rel (xs:=xs) rs]
  rfl
end
end Go.AL
namespace Go.AL
open Go
def gtmp (ops:Array Oper) (g:Option (Nat × Bool)):Option Nat :=
 match g with
 | some (j,_)=>(ops[j]?).bind (·.dst)
 | none=>none
section
variable {P:Program} {G:Gh} {ops:Array Oper} {Q:APost} {R:Fr→List AObj→Prop}
def at' {α:Type} [Inhabited α] (l:List α) (n:Int):α:=l.getD n.toNat default
theorem at_nat {α:Type} [Inhabited α] (l:List α) (k:Nat) (h:k < l.length):at' l (k:Int)=l[k]:=by
 simp [at',h]
theorem index_at [T : TyTab P] {dst : Option Tmp} {t : TypeId} {x i : Operand} {type : TypeId} {pos : String} {after : Array Edge} {guard : Option (Nat × Bool)} {F : Fr} {H : List AObj} {a : AVal} {α : Type} [Inhabited α] {enc : α → AVal} {l : List α} {k : IntKind} {n : Int} {e : TypeId} {r r' : TyRow}
    (hx : ev F x = some a) (ha : xsOf a = some (l.map enc)) (hi : ev F i = some (.v (.int k n))) (ht : tfind T.tab t = some r') (hd : r'.d = .slice e) (he : tfind T.tab e = some r)
    (hl : (enc (at' l n)).cells.length = r.size) (hf : (enc (at' l n)).flat = true) (h0 : 0 ≤ n) (h1 : n < l.length) : DSem P .p ⟨dst, .indexAddr t x i, type, pos, after, guard⟩ F H (.pp (enc (at' l n)).cells 0) H :=
  index_map hx ha hi ht hd he h0 (by have : n.toNat < l.length := by omega
                                     simp [at', this]) hl hf
end
end Go.AL
namespace Go.AL
open Go
section
variable {P:Program}
end
end Go.AL
namespace Go.AL
open Go
section
variable {P:Program}
def optI (F:Fr) (d:Int) (o:Option Operand) (l:Int):Prop:=match o with|none=>l=d|some o=>∃ k,ev F o=some (.v (.int k l))
theorem optI_lo {ρ:Operand→Value} {F:Fr} {c:Ctx} {d l:Int} {o:Option Operand} (h:optI F d o l) (hρ:∀ x,o=some x→∀ v,ev F x=some v→Rel c v (ρ x)):(o.map ρ=none∧l=d∧o=none)∨∃ k,o.map ρ=some (.int k l):=by
 cases o with
 | none=>exact .inl ⟨rfl,h,rfl⟩
 | some x =>
  obtain ⟨k,hk⟩:=h
  have:ρ x = .int k l:=hρ x rfl _ hk
  exact .inr ⟨k,by simp [this]⟩
def zeroOk (r:TyRow):Bool:=Nat.beq r.z.cells.size r.size&&r.z.cells.toList.all Value.oneCell'&&(!(aggB r.d)||match r.z with | .agg _=>true|_=>false)
theorem zeroA_rel {r:TyRow} (h:zeroOk r=true) (c:Ctx):Rel c (zeroA r) r.z:=by
 unfold zeroA
 simp only [zeroOk,Bool.and_eq_true,Bool.or_eq_true,Bool.not_eq_true'] at h
 cases ha:aggB r.d with
 | false=>exact constA_rel c _
 | true =>
  rcases h.2 with h2|h2
  ·rw [ha] at h2;cases h2
  ·cases hz:r.z with
   | agg a=>exact ⟨a,rfl,relL_const c _⟩
   | _=>rw [hz] at h2;cases h2
end
end Go.AL
namespace Go.AL
open Go
section
variable {P:Program} {G:Gh} {Q:APost}
theorem StB.more {β:List Ent} {F:Fr} {H:List AObj} {a:Act} {w:World} (h:StB G β F H a w) {v:AVal}:∀ {ts:List Nat},(∀ t∈ts,∃ u,a.tmps[t]? = some u∧Rel (ctx G.ext w β) v u)→StB G β (ts.map (·,v)++F) H a w
 | [],_=>h
 | t::ts,hm=>by
  have h':=StB.more h (ts:=ts) (fun s hs=>hm s (List.mem_cons_of_mem _ hs))
  refine ⟨h.inv,h.step,h.extOk,h.size,h.defers,fun s x hs=>?_⟩
  simp only [List.map_cons,List.cons_append,fget] at hs
  cases hb:Nat.beq t s with
  | true =>
   rw [hb] at hs;simp at hs;subst hs
   rw [←Nat.eq_of_beq_eq_true hb]
   exact hm t (List.mem_cons_self ..)
  | false=>rw [hb] at hs;simp at hs;exact h'.get s x hs
theorem fproj_all {F:Fr} {v:AVal}:∀ {ts:List Nat},fproj F ts=some (ts.map fun _=>v)→∀ t∈ts,fget F t=some v
 | [],_,t,h=>by simp at h
 | s::ts,hp,t,h=>by
  simp only [fproj] at hp
  cases h1:fget F s with
  | none=>rw [h1] at hp;cases hp
  | some x =>
   cases h2:fproj F ts with
   | none=>rw [h1,h2] at hp;cases hp
   | some xs =>
    rw [h1,h2] at hp
    simp only [List.map_cons,Option.some.injEq,List.cons.injEq] at hp
    rcases List.mem_cons.1 h with rfl|h
    ·rw [h1,hp.1]
    ·exact fproj_all (by rw [h2,hp.2]) t h
theorem aw_adopt {c:Code} {F:Fr} {H:List AObj} (ts:List Nat) (bt:TypeId) (es:Nat) (hts:fproj F ts=some (ts.map fun _=>.slf []))
  (h:AW P G c Q (ts.map (·,.arr H.length 1)++F) (H++[.arr 1 bt es []])):AW P G c Q F H:=by
 rintro a w ⟨β,hs⟩
 have hlen:=hs.inv.len
 have hst:Step w β w (β++[⟨none,1,es,0,0⟩]):=by
  refine ⟨rfl,rfl,rfl,Nat.le_refl _,fun b hb _=>rfl,fun b hb=>?_,fun j e he=>⟨e,by rw [List.getElem?_append_left (List.getElem?_eq_some_iff.1 he).1];exact he,Nat.le_refl _,fun _=>rfl,fun _=>rfl⟩⟩
  obtain ⟨j,e,he,hb⟩:=hb
  rcases Nat.lt_or_ge j β.length with hlt|hge
  ·rw [List.getElem?_append_left hlt] at he;exact .inl ⟨j,e,he,hb⟩
  ·rw [List.getElem?_append_right hge] at he
   have:j-β.length=0:=by
    have:=(List.getElem?_eq_some_iff.1 he).1
    simpa using this
   rw [this] at he;simp at he;subst he;cases hb
 have cls:∀ (i:Nat) (f:Ent),(β++[⟨none,1,es,0,0⟩])[i]? = some f→β[i]? = some f∨(i=β.length∧f=⟨none,1,es,0,0⟩):=fun i f hf=>by
  rcases Nat.lt_or_ge i β.length with hlt|hge
  ·rw [List.getElem?_append_left hlt] at hf;exact .inl hf
  ·rw [List.getElem?_append_right hge] at hf
   have:i-β.length=0:=by
    have:=(List.getElem?_eq_some_iff.1 hf).1
    simpa using this
   rw [this] at hf;simp at hf;exact .inr ⟨by omega,hf.symm⟩
 have hinv:Inv G.ext w (H++[.arr 1 bt es []]) (β++[⟨none,1,es,0,0⟩]):=by
  refine hs.inv.upd hst (by simp [hlen]) ?_ ?_ ?_
  ·intro j o e ho he
   rcases cls j e he with h1|⟨h1,h2⟩
   ·have hlt:=(List.getElem?_eq_some_iff.1 h1).1
    rw [List.getElem?_append_left (by rw [←hlen];exact hlt)] at ho
    exact .inl ⟨ho,h1,fun _ _=>rfl⟩
   ·subst h2
    rw [h1,hlen] at ho
    simp at ho;subst ho
    exact .inr ⟨rfl,by decide,rfl,rfl,Nat.le_refl _,rfl⟩
  ·intro i k e f b hi hk he hf
   rcases cls i e hi with h1|⟨h1,h2⟩<;>rcases cls k f hk with h3|⟨h3,h4⟩
   ·exact hs.inv.uniq i k e f b h1 h3 he hf
   ·subst h4;cases hf
   ·subst h2;cases he
   ·omega
  ·intro b hb
   rcases hst.fresh b hb with h1|h1
   ·exact hs.inv.sep b h1
   ·obtain ⟨j,e,he,hb⟩:=hb
    rcases cls j e he with h2|⟨h2,h3⟩
    ·exact hs.inv.sep b ⟨j,e,h2,hb⟩
    ·subst h3;cases hb
 refine h a w ⟨_,StB.more (hs.world hinv hst) fun t ht=>?_⟩
 obtain ⟨u,hu,A,es',h1,h2,h3⟩:=hs.get t _ (fproj_all hts t ht)
 refine ⟨u,hu,by subst h1;rfl,⟨none,1,es,0,0⟩,by rw [←hlen];simp,Nat.le_refl _,fun _=>⟨Nat.le_refl _,rfl,A,h1⟩⟩
theorem eq_nil [T:TyTab P] {dst:Option Tmp} {t ty:TypeId} {x:Operand} {type:TypeId} {pos:String} {after:Array Edge} {guard:Option (Nat × Bool)} {F:Fr} {H:List AObj} {a:AVal} {xs:List AVal} {e:TypeId} {r':TyRow}
  (hx:ev F x=some a) (ha:xsOf a=some xs) (ht:tfind T.tab t=some r') (hd:r'.d = .slice e) :
  OpSem P ⟨dst,.binOp .eql t x (.const (.slice none 0 0)) ty,type,pos,after,guard⟩ F H (fun r H'=>(∃ b,r = .ret (.v (.bool b))∧(b=true→xs=[]))∧H'=H):=by
 intro ext w β ρ hI hext hκ hρ
 obtain ⟨A,m,es,hu,hm,_,hA,hr⟩:=sl_open ha (hρ x (by simp [Op.operands]) _ hx)
 have h4:(execOp ρ ⟨dst,.binOp .eql t x (.const (.slice none 0 0)) ty,type,pos,after,guard⟩).run P w = .ok (.value (.bool A.isNone)) w:=by
  simp only [execOp,hκ,hu,Sem.run_bind]
  have hu':P.underlying t=some (.slice e):=by rw [ty_und ht,hd]
  have hg:(eqGuard .eql t x (.const (.slice none 0 0)) (.slice A xs.length m) (.slice none 0 0)).run P w = .ok () w:=rfl
  simp only [hg,Result.andThen_ok,Lib.run_eql_slice_nil w t e A xs.length m 0 0 hu',Sem.run_pure]
 rw [h4]
 refine ⟨.v (.bool A.isNone),H,β,⟨⟨_,rfl,fun h=>?_⟩,rfl⟩,rfl,hI,Step.refl w β⟩
 cases A with
 | some a=>cases h
 | none =>
  by_cases hx:xs=[]
  ·exact hx
  ·obtain ⟨b,o,h,_⟩:=hA hx;cases h
end
end Go.AL
namespace Go.AL
open Go
section
variable {P:Program} {G:Gh} {ops:Array Oper} {Q:APost} {R:Fr→List AObj→Prop}
end
end Go.AL
namespace Go.AL
open Go
section
variable {P:Program} {G:Gh} {ops:Array Oper} {Q:APost}
theorem awl_q {F:Fr} {H:List AObj} {d:Tmp} {o:Op} {ty:TypeId} {pos:String} {aft:Array Edge} {g:Option (Nat × Bool)} {l:List Oper} {res:Eff}
  (hd:Nat.blt d G.n=true) (hg:guardA ops F ⟨some d,o,ty,pos,aft,g⟩=some true) (h:OpSem P ⟨some d,o,ty,pos,aft,g⟩ F H res)
  (next:∀ r H',res r H'→∃ v,r = .ret v∧AWL P G ops Q l ((d,v)::F) H'):AWL P G ops Q (⟨some d,o,ty,pos,aft,g⟩::l) F H :=
 ⟨fun t ht=>by injection ht with ht;subst ht;simpa [Nat.blt_eq] using hd,.inl ⟨hg,res,h,fun r H' hr=>by obtain ⟨v,rfl,hn⟩:=next r H' hr;exact hn⟩⟩
theorem aw_publish {c:Code} {F:Fr} {H:List AObj} (ts:List Nat) {j g es:Nat} {t:TypeId} {xs:List AVal} (g':Nat) (hg':Nat.blt g g'=true) (hts:fproj F ts=some (ts.map fun _=>.arr j g)) (t0:Nat) (h0:fget F t0=some (.arr j g)) (hj:H[j]? = some (.arr g t es xs))
  (h:AW P G c Q (ts.map (·,.sl xs)++F) (H.set j (.dead g'))):AW P G c Q F H:=by
 rintro a w ⟨β,hs⟩
 have hgg:g < g':=by simpa [Nat.blt_eq] using hg'
 obtain ⟨u0,hu0,hr0⟩:=hs.get t0 _ h0
 obtain ⟨ent,e1,e2,e3,e4,e5,e6,e7⟩:=arr_open hs.inv hj hr0
 have hjl:=(List.getElem?_eq_some_iff.1 e1).1
 have hst:Step w β w (β.set j ⟨none,g',es,0,0⟩):=Step.regen e1 (by omega) (by simp only;omega) (.inl rfl)
 refine h a w ⟨_,StB.more (hs.world (hs.inv.set hs.extOk e1 hst (fun c hc _=>rfl) (.inr (.inl rfl)) (a:=.dead g') ⟨rfl,by omega,rfl⟩) hst) fun t ht=>?_⟩
 obtain ⟨u,hu,hr⟩:=hs.get t _ (fproj_all hts t ht)
 refine ⟨u,hu,?_⟩
 obtain ⟨ent',f1,f2,f3,f4,f5,f6,f7⟩:=arr_open hs.inv hj hr
 rcases f7 with ⟨_,h8,_,A,h9⟩|⟨b,us,h8,h9,h10,h11,h12⟩
 ·subst h8
  exact ⟨A,0,0,h9,Nat.le_refl _,fun hx=>absurd rfl hx,trivial⟩
 ·refine ⟨_,ent'.cap,es,h9,f6,fun _=>⟨b,0,rfl,?_,(hs.inv.sep b ⟨j,ent',f1,h8⟩).2⟩,?_⟩
  ·rintro (hb|⟨i,q,hq,hqb⟩)
   ·exact (hs.inv.sep b ⟨j,ent',f1,h8⟩).1 hb
   ·by_cases hij:i=j
    ·subst hij
     rw [List.getElem?_set_self hjl] at hq
     injection hq with hq;subst hq;cases hqb
    ·rw [List.getElem?_set_ne (by omega)] at hq
     exact hij (hs.inv.uniq i j q ent' b hq f1 hqb h8)
  ·have:rdA w (some ⟨b,0,none⟩)=fun (i:Nat)=>us[i]?:=by
    funext i
    simp [rdA,World.cell?,h10]
   show RelR _ es (rdA w (some ⟨b,0,none⟩)) 0 xs
   rw [this]
   exact h12.le (hst.le (ext:=G.ext)).bare _ _ _ _
end
end Go.AL
namespace Go.AL
open Go
section
variable {P:Program}
def SameBox:List AObj→List AObj→Prop
 | [],_=>True
 | .box t cs::r,o::r'=>o = .box t cs∧SameBox r r'
 | .box _ _::_,[]=>False
 | _::r,_::r'=>SameBox r r'
 | _::r,[]=>SameBox r []
theorem SameBox.ok:∀ {H H':List AObj},SameBox H H'→Boxes H H'
 | [],_,_,j,t,cs,hj=>by simp at hj
 | .box t0 cs0::r,[],h,_,_,_,_=>h.elim
 | .box t0 cs0::r,o::r',h,j,t,cs,hj=>by
  obtain ⟨h1,h2⟩:=h
  cases j with
  | zero=>simp at hj ⊢;rw [h1,hj.1,hj.2]
  | succ j=>exact h2.ok j t cs (by simpa using hj)
 | .arr .. :: r,H',h,j,t,cs,hj=>by
  cases j with
  | zero=>simp at hj
  | succ j=>cases H' with
   | nil=>exact absurd (SameBox.ok (H:=r) (H':=[]) h j t cs (by simpa using hj)) (by simp)
   | cons o r'=>exact SameBox.ok (H:=r) (H':=r') h j t cs (by simpa using hj)
 | .row .. :: r,H',h,j,t,cs,hj=>by
  cases j with
  | zero=>simp at hj
  | succ j=>cases H' with
   | nil=>exact absurd (SameBox.ok (H:=r) (H':=[]) h j t cs (by simpa using hj)) (by simp)
   | cons o r'=>exact SameBox.ok (H:=r) (H':=r') h j t cs (by simpa using hj)
 | .raw .. :: r,H',h,j,t,cs,hj=>by
  cases j with
  | zero=>simp at hj
  | succ j=>cases H' with
   | nil=>exact absurd (SameBox.ok (H:=r) (H':=[]) h j t cs (by simpa using hj)) (by simp)
   | cons o r'=>exact SameBox.ok (H:=r) (H':=r') h j t cs (by simpa using hj)
 | .fix .. :: r,H',h,j,t,cs,hj=>by
  cases j with
  | zero=>simp at hj
  | succ j=>cases H' with
   | nil=>exact absurd (SameBox.ok (H:=r) (H':=[]) h j t cs (by simpa using hj)) (by simp)
   | cons o r'=>exact SameBox.ok (H:=r) (H':=r') h j t cs (by simpa using hj)
 | .vmap .. :: r,H',h,j,t,cs,hj=>by
  cases j with
  | zero=>simp at hj
  | succ j=>cases H' with
   | nil=>exact absurd (SameBox.ok (H:=r) (H':=[]) h j t cs (by simpa using hj)) (by simp)
   | cons o r'=>exact SameBox.ok (H:=r) (H':=r') h j t cs (by simpa using hj)
 | .loop .. :: r,H',h,j,t,cs,hj=>by
  cases j with
  | zero=>simp at hj
  | succ j=>cases H' with
   | nil=>exact absurd (SameBox.ok (H:=r) (H':=[]) h j t cs (by simpa using hj)) (by simp)
   | cons o r'=>exact SameBox.ok (H:=r) (H':=r') h j t cs (by simpa using hj)
 | .map .. :: r,H',h,j,t,cs,hj=>by
  cases j with
  | zero=>simp at hj
  | succ j=>cases H' with
   | nil=>exact absurd (SameBox.ok (H:=r) (H':=[]) h j t cs (by simpa using hj)) (by simp)
   | cons o r'=>exact SameBox.ok (H:=r) (H':=r') h j t cs (by simpa using hj)
 | .dead .. :: r,H',h,j,t,cs,hj=>by
  cases j with
  | zero=>simp at hj
  | succ j=>cases H' with
   | nil=>exact absurd (SameBox.ok (H:=r) (H':=[]) h j t cs (by simpa using hj)) (by simp)
   | cons o r'=>exact SameBox.ok (H:=r) (H':=r') h j t cs (by simpa using hj)
theorem DSem.x {o:Oper} {F:Fr} {H H':List AObj} {v:AVal} (h:DSem P .m o F H v H') (hb:SameBox H H'):DSem P .x o F H v H':=⟨hb.ok,h⟩
end
end Go.AL
namespace Go.AL
open Go
section
variable {P:Program} {G:Gh} {Q:APost}
theorem zip_get {c:Ctx} {tmps:Array Value}:∀ {ts:List Nat} {vs:List AVal} {us:List Value},RelL c vs us→(∀ (i t:Nat),ts[i]? = some t→i < us.length→∃ u,us[i]? = some u∧tmps[t]? = some u) →
  ∀ t v,fget (ts.zip vs) t=some v→∃ u,tmps[t]? = some u∧Rel c v u
 | [],vs,us,_,_,t,v,h=>by simp [fget] at h
 | s::ts,[],us,_,_,t,v,h=>by simp [fget] at h
 | s::ts,x::vs,us,hr,hg,t,v,h=>by
  obtain ⟨u,us',rfl,r,rs⟩:=hr
  simp only [List.zip_cons_cons,fget] at h
  cases hb:Nat.beq s t with
  | true =>
   rw [hb] at h;simp at h;subst h
   rw [←Nat.eq_of_beq_eq_true hb]
   obtain ⟨u',h1,h2⟩:=hg 0 s rfl (by simp)
   simp at h1;subst h1
   exact ⟨u,h2,r⟩
  | false =>
   rw [hb] at h;simp at h
   exact zip_get rs (fun i t hi hl=>by
    obtain ⟨u',h1,h2⟩:=hg (i+1) t (by simpa using hi) (by simpa using hl)
    exact ⟨u',by simpa using h1,h2⟩) t v h
theorem fproj_vals {β:List Ent} {F:Fr} {H:List AObj} {a:Act} {w:World} (hs:StB G β F H a w):∀ {ts:List Nat} {vs:List AVal},fproj F ts=some vs →
  ∃ us:List Value,RelL (ctx G.ext w β) vs us∧us.length=ts.length∧∀ (i t:Nat),ts[i]? = some t→∃ u,us[i]? = some u∧a.tmps[t]? = some u
 | [],vs,h=>by simp [fproj] at h;subst h;exact ⟨[],rfl,rfl,fun i t hi=>by simp at hi⟩
 | s::ts,vs,h=>by
  simp only [fproj] at h
  cases h1:fget F s with
  | none=>rw [h1] at h;cases h
  | some x =>
   cases h2:fproj F ts with
   | none=>rw [h1,h2] at h;cases h
   | some xs =>
    rw [h1,h2] at h;simp at h;subst h
    obtain ⟨us,r,hl,hg⟩:=fproj_vals hs h2
    obtain ⟨u,hu,hr⟩:=hs.get s x h1
    refine ⟨u::us,⟨u,us,rfl,hr,r⟩,by simp [hl],fun i t hi=>?_⟩
    cases i with
    | zero=>simp at hi;subst hi;exact ⟨u,rfl,hu⟩
    | succ i =>
     obtain ⟨u',g1,g2⟩:=hg i t (by simpa using hi)
     exact ⟨u',by simpa using g1,g2⟩
theorem St.fin {F:Fr} {H H':List AObj} {a:Act} {w:World} (hs:St G F H a w) (n:Nat) (ts:List Nat) {vs vs':List AVal} {wk:Bool} (hp:fproj F ts=some vs) (hf:finish n [] wk H (.tup vs)=some (.tup vs',H')) (hn:n≤H.length) (hβ:G.β0.length≤n) :
  St G (ts.zip vs') H' a w:=by
 obtain ⟨β,hs⟩:=hs
 obtain ⟨us,hr,hl,hg⟩:=fproj_vals hs hp
 have hr':Rel (ctx G.ext w β) (.tup vs) (.tuple us.toArray):=⟨us.toArray,rfl,hr⟩
 obtain ⟨β',h3,h4,h5,hsub⟩:=finish_came1 hs.inv hs.step hβ (by rw [hs.inv.len];exact hn) hr' rfl hf
 obtain ⟨ua,hu,h3⟩:=h3
 injection hu with hu
 subst hu
 obtain ⟨ms,m1,m2,m3,m4⟩:=hs.defers
 refine ⟨β',h4,h5,hs.extOk,hs.size,⟨ms,m1,m2,fun r hr=>?_,m4⟩,?_⟩
 ·obtain ⟨l1,l2,l3,l4⟩:=m3 r hr
  exact ⟨l1,l2,fun hb=>l3 (hb.imp id (hsub r)),l4⟩
 exact zip_get h3 fun i t hi _=>by simpa using hg i t hi
theorem aw_fin {c:Code} {F:Fr} {H H':List AObj} (n:Nat) (ts:List Nat) {vs vs':List AVal} (wk:Bool) (hp:fproj F ts=some vs) (hf:finish n [] wk H (.tup vs)=some (.tup vs',H')) (hn:Nat.ble n H.length=true) (hβ:G.β0.length≤n)
  (h:AW P G c Q (ts.zip vs') H'):AW P G c Q F H :=
 fun a w hs=>h a w (hs.fin n ts hp hf (Nat.le_of_ble_eq_true hn) hβ)
def Round {ι:Type} (n:Nat) (I:ι→Prop) (ts:List Nat) (V:ι→List AVal) (HH:ι→List AObj) (μ:ι→Nat) (i:ι) (F':Fr) (H':List AObj):Prop :=
 ∃ i',I i'∧μ i' < μ i∧∃ wk vs vs' H'',fproj F' ts=some vs∧finish n [] wk H' (.tup vs)=some (.tup vs',H'')∧Nat.ble n H'.length=true∧vs'=V i'∧H''=HH i'
theorem aw_loopF {c:Code} {F:Fr} {H:List AObj} {ι:Type} (n:Nat) (I:ι→Prop) (ts:List Nat) (V:ι→List AVal) (HH:ι→List AObj) (μ:ι→Nat) (i0:ι) (hβ:G.β0.length≤n) (hI:I i0) (h0:fproj F ts=some (V i0)) (hH:H=HH i0)
  (round:∀ i,I i→AW P G c (athen (fun F' H'=>Round n I ts V HH μ i F' H') Q) (ts.zip (V i)) (HH i)):AW P G (.loop c) Q F H:=by
 intro a w ⟨β,hs⟩
 refine wpIn_loop_ghost (fun k a w=>∃ i,I i∧μ i=k∧St G (ts.zip (V i)) (HH i) a w) (μ i0) ⟨i0,hI,rfl,β,by subst hH;exact hs.proj h0⟩ ?_
 rintro k a w ⟨i,hi,hk,hst⟩
 refine wpIn_mono (round i hi a w hst) ?_
 intro e a' w' he
 cases e with
 | normal =>
  obtain ⟨F',H',⟨i',h1,h2,wk,vs,vs',H'',h3,h4,h5,rfl,rfl⟩,hs'⟩:=he
  exact ⟨μ i',by omega,i',h1,rfl,hs'.fin n ts h3 h4 (Nat.le_of_ble_eq_true h5) hβ⟩
 | exit id=>exact he
 | ret=>exact he
 | panic ch=>exact he
 | goto l=>exact he.elim
 | outgrown=>exact he.elim
theorem aw_loopI {c:Code} {F:Fr} {H:List AObj} {ι:Type} (I:ι→Prop) (ts:List Nat) (V:ι→List AVal) (HH:ι→List AObj) (μ:ι→Nat) (i0:ι) (hI:I i0) (h0:fproj F ts=some (V i0)) (hH:H=HH i0)
  (round:∀ i,I i→AW P G c (athen (fun F' H'=>∃ i',I i'∧fproj F' ts=some (V i')∧H'=HH i'∧μ i' < μ i) Q) (ts.zip (V i)) (HH i)):AW P G (.loop c) Q F H:=by
 refine aw_loop (ι:={ i // I i }) ts (fun i=>V i.1) (fun i=>HH i.1) (fun i=>μ i.1) ⟨i0,hI⟩ h0 hH fun i=>(round i.1 i.2).mono fun e F H he=>?_
 cases e with
 | normal=>obtain ⟨i',h1,h2,h3,h4⟩:=he;exact ⟨⟨i',h1⟩,h2,h3,h4⟩
 | _=>exact he
end
end Go.AL
namespace Go.AL
open Go
section
variable {P:Program}
end
end Go.AL
end
section
namespace Go.AL
open Go
inductive Kt where
 | nil
 | seq (y:Code) (k:Kt)
 | blk (id:Nat) (k:Kt)
 | lp (R:Fr→List AObj→Prop) (k:Kt)
inductive Pt where
 | c (x:Code) (k:Kt)
 | l (ops:Array Oper) (l:List Oper) (k:Kt)
 | d (ops:Array Oper) (l:List (Nat × Oper × K)) (k:Kt)
 | e (x:AExit) (k:Kt)
section
variable (P:Program) (G:Gh) (Q:APost)
def post:Kt→APost
 | .nil=>Q
 | .seq y k=>athen (fun F H=>AW P G y (post k) F H) (post k)
 | .blk id k=>ablock id (post k)
 | .lp R k=>athen R (post k)
def J:Pt→Fr→List AObj→Prop
 | .c x k,F,H=>AW P G x (post P G Q k) F H
 | .l ops l k,F,H=>AWL P G ops (post P G Q k) l F H
 | .d ops l k,F,H=>AWD P G ops (fun F H=>post P G Q k .normal F H) l F H
 | .e x k,F,H=>post P G Q k x F H
end
def K.le:K→K→Bool
 | .p,_=>true
 | .r,.p=>false
 | .r,.y _ _=>false
 | .r,.a=>false
 | .r,_=>true
 | .s,.p=>false
 | .s,.r=>false
 | .s,.y _ _=>false
 | .s,.w _ _=>false
 | .s,.a=>false
 | .s,.x=>true
 | .s,_=>true
 | .x,.x=>true
 | .x,.m=>true
 | .x,_=>false
 | .m,.m=>true
 | .m,_=>false
 | .y i j,.y k l=>Nat.beq i k&&Nat.beq j l
 | .y _ _,.s=>true
 | .y _ _,.m=>true
 | .y _ _,_=>false
 | .w i j,.w k l=>Nat.beq i k&&Nat.beq j l
 | .w _ _,.m=>true
 | .w _ _,_=>false
 | .a,.a=>true
 | .a,.x=>true
 | .a,.m=>true
 | .a,_=>false
theorem DSem.up {P:Program} {k k':K} {o:Oper} {F:Fr} {H H1:List AObj} {v:AVal} (h:DSem P k o F H v H1) (hk:k.le k'=true):DSem P k' o F H v H1:=by
 by_cases he:k=k'
 ·rw [←he];exact h
 cases k<;>cases k'<;>first|(exact absurd hk (by decide))|(exact absurd rfl he)|(exfalso;simp only [K.le,Bool.and_eq_true] at hk;exact he (by rw [Nat.eq_of_beq_eq_true hk.1,Nat.eq_of_beq_eq_true hk.2]))|(cases hk;done)|skip
 all_goals clear hk he
 all_goals simp only [DSem] at h ⊢
 all_goals first
  | exact h
  | (obtain ⟨rfl,h⟩:=h;exact ⟨(Boxes.refl _).but,rfl,fun T=>h _⟩)
  | (obtain ⟨rfl,h⟩:=h;exact ⟨[],(List.append_nil _).symm,fun H' _=>by rw [List.append_nil];exact h _⟩)
  | (obtain ⟨rfl,h⟩:=h;exact ⟨(Boxes.refl _).but,rfl,fun T=>h _ fun j t cs hj=>by rw [List.getElem?_append_left (List.getElem?_eq_some_iff.1 hj).1];exact hj⟩)
  | (have:=h.2.2 [];rwa [List.append_nil,List.append_nil] at this)
  | (obtain ⟨T,rfl,h⟩:=h;exact ⟨fun j t cs hj=>by rw [List.getElem?_append_left (List.getElem?_eq_some_iff.1 hj).1];exact hj,h _ rfl⟩)
  | (obtain ⟨T,rfl,h⟩:=h;exact h _ rfl)
  | (obtain ⟨rfl,h⟩:=h;exact h _ (Boxes.refl _).but)
  | (obtain ⟨rfl,h⟩:=h;exact ⟨rfl,h _ (Boxes.refl _).but⟩)
  | (obtain ⟨rfl,h⟩:=h;exact ⟨(Boxes.refl _).but,h _ (Boxes.refl _)⟩)
  | (obtain ⟨rfl,h⟩:=h;exact ⟨(Boxes.refl _).but,h⟩)
  | exact ⟨h.1.but,h.2⟩
  | (obtain ⟨rfl,h⟩:=h;exact ⟨rfl,fun H' _=>h H'⟩)
  | (obtain ⟨rfl,h⟩:=h;exact ⟨rfl,h _⟩)
  | (obtain ⟨rfl,h⟩:=h;exact ⟨Boxes.refl _,h _⟩)
  | (obtain ⟨rfl,h⟩:=h;exact h _)
  | (obtain ⟨rfl,h⟩:=h;exact ⟨rfl,h _ (Boxes.refl _)⟩)
  | (obtain ⟨rfl,h⟩:=h;exact ⟨Boxes.refl _,h _ (Boxes.refl _)⟩)
  | (obtain ⟨rfl,h⟩:=h;exact h _ (Boxes.refl _))
  | (obtain ⟨rfl,h⟩:=h;exact ⟨Boxes.refl _,h⟩)
  | (obtain ⟨rfl,h⟩:=h;exact h)
  | exact h.2
def spine:List AVal→Option (List AVal)
 | []=>some []
 | x::xs=>match spine xs with
  | some ys=>some (x::ys)
  | none=>none
theorem spine_eq:∀ {l l':List AVal},spine l=some l'→l'=l
 | [],_,h=>by simp [spine] at h;exact h
 | x::xs,l',h=>by
  simp only [spine] at h
  split at h
  ·rename_i ys hy;injection h with h;rw [←h,spine_eq hy]
  ·cases h
def num:Nat→Option Nat
 | 0=>some 0
 | n+1=>match num n with|some m=>some (m+1)|none=>none
theorem num_eq:∀ {n m:Nat},num n=some m→m=n
 | 0,m,h=>by simp [num] at h;exact h.symm
 | n+1,m,h=>by
  simp only [num] at h;split at h
  ·rename_i k hk;injection h with h;rw [←h,num_eq hk]
  ·cases h
def lenH:List AObj→Option Nat
 | []=>some 0
 | _::l=>match lenH l with|some m=>some (m+1)|none=>none
theorem lenH_eq:∀ {l:List AObj} {m:Nat},lenH l=some m→m=l.length
 | [],m,h=>by simp [lenH] at h;exact h.symm
 | _::l,m,h=>by
  simp only [lenH] at h;split at h
  ·rename_i k hk;injection h with h;rw [←h,lenH_eq hk];rfl
  ·cases h
mutual
def nrm:AVal→Option AVal
 | .v x=>some (.v x)
 | .agg cs=>match nrmL cs with|some cs=>some (.agg cs)|none=>none
 | .tup cs=>match nrmL cs with|some cs=>some (.tup cs)|none=>none
 | .sl xs=>some (.sl xs)
 | .slf xs=>some (.slf xs)
 | .slz xs=>some (.slz xs)
 | .arr j g=>match num j with|some j=>some (.arr j g)|none=>none
 | .ptr j off=>match num j with|some j=>some (.ptr j off)|none=>none
 | .pp cs off=>some (.pp cs off)
 | .ep j g k off=>match num j with|some j=>some (.ep j g k off)|none=>none
 | .hd j g off len=>match num j with|some j=>some (.hd j g off len)|none=>none
 | .bs j off len cap=>match num j with|some j=>some (.bs j off len cap)|none=>none
 | .fn f a b=>match nrmL a,nrmL b with|some a,some b=>some (.fn f a b)|_,_=>none
 | .mp j=>match num j with|some j=>some (.mp j)|none=>none
 | .ifc t x=>match nrm x with|some x=>some (.ifc t x)|none=>none
def nrmL:List AVal→Option (List AVal)
 | []=>some []
 | x::xs=>match nrm x,nrmL xs with
  | some y,some ys=>some (y::ys)
  | _,_=>none
end
mutual
theorem nrm_eq:∀ (a:AVal) {b:AVal},nrm a=some b→b=a
 | .v x,b,h=>by simp [nrm] at h;exact h.symm
 | .agg cs,b,h=>by
  simp only [nrm] at h;split at h
  ·rename_i cs' hc;injection h with h;rw [←h,nrmL_eq cs hc]
  ·cases h
 | .tup cs,b,h=>by
  simp only [nrm] at h;split at h
  ·rename_i cs' hc;injection h with h;rw [←h,nrmL_eq cs hc]
  ·cases h
 | .sl xs,b,h=>by simp [nrm] at h;exact h.symm
 | .slf xs,b,h=>by simp [nrm] at h;exact h.symm
 | .slz xs,b,h=>by simp [nrm] at h;exact h.symm
 | .arr j g,b,h=>by
  simp only [nrm] at h;split at h
  ·rename_i i hi;injection h with h;rw [←h,num_eq hi]
  ·cases h
 | .ptr j g,b,h=>by
  simp only [nrm] at h;split at h
  ·rename_i i hi;injection h with h;rw [←h,num_eq hi]
  ·cases h
 | .pp cs off,b,h=>by simp [nrm] at h;exact h.symm
 | .ep j g k off,b,h=>by
  simp only [nrm] at h;split at h
  ·rename_i i hi;injection h with h;rw [←h,num_eq hi]
  ·cases h
 | .bs j g k off,b,h=>by
  simp only [nrm] at h;split at h
  ·rename_i i hi;injection h with h;rw [←h,num_eq hi]
  ·cases h
 | .hd j g k off,b,h=>by
  simp only [nrm] at h;split at h
  ·rename_i i hi;injection h with h;rw [←h,num_eq hi]
  ·cases h
 | .fn f a c,b,h=>by
  simp only [nrm] at h;split at h
  ·rename_i a' c' ha hc;injection h with h;rw [←h,nrmL_eq a ha,nrmL_eq c hc]
  ·cases h
 | .mp j,b,h=>by
  simp only [nrm] at h;split at h
  ·rename_i i hi;injection h with h;rw [←h,num_eq hi]
  ·cases h
 | .ifc t x,b,h=>by
  simp only [nrm] at h;split at h
  ·rename_i x' hx;injection h with h;rw [←h,nrm_eq x hx]
  ·cases h
theorem nrmL_eq:∀ (a:List AVal) {b:List AVal},nrmL a=some b→b=a
 | [],b,h=>by simp [nrmL] at h;exact h
 | x::xs,b,h=>by
  simp only [nrmL] at h;split at h
  ·rename_i y ys hy hys;injection h with h;rw [←h,nrm_eq x hy,nrmL_eq xs hys]
  ·cases h
end
def nrmO:AObj→Option AObj
 | .box t cs=>match nrmL cs with|some cs=>some (.box t cs)|none=>none
 | .arr g t es xs=>some (.arr g t es xs)
 | .raw b o=>some (.raw b o)
 | .fix b o=>some (.fix b o)
 | .vmap es=>some (.vmap es)
 | .loop l st pend s vs=>match nrmL vs with|some vs=>some (.loop l st pend s vs)|none=>none
 | .map es=>some (.map es)
 | .dead g=>some (.dead g)
 | .row g t es xs=>some (.row g t es xs)
theorem nrmO_eq {a b:AObj} (h:nrmO a=some b):b=a:=by
 cases a<;>simp only [nrmO] at h
 case box t cs =>
  split at h
  ·rename_i cs' hc;injection h with h;rw [←h,nrmL_eq cs hc]
  ·cases h
 case loop l st pend s vs =>
  split at h
  ·rename_i cs' hc;injection h with h;rw [←h,nrmL_eq vs hc]
  ·cases h
 all_goals (injection h with h;exact h.symm)
def nrmH:List AObj→Option (List AObj)
 | []=>some []
 | x::xs=>match nrmO x,nrmH xs with
  | some y,some ys=>some (y::ys)
  | _,_=>none
theorem nrmH_eq:∀ {a b:List AObj},nrmH a=some b→b=a
 | [],b,h=>by simp [nrmH] at h;exact h
 | x::xs,b,h=>by
  simp only [nrmH] at h;split at h
  ·rename_i y ys hy hys;injection h with h;rw [←h,nrmO_eq hy,nrmH_eq hys]
  ·cases h
def open1:AVal→Option AVal
 | .agg cs=>match spine cs with|some cs=>some (.agg cs)|none=>none
 | .v x=>some (.v x)
 | .tup cs=>some (.tup cs)
 | .sl xs=>some (.sl xs)
 | .slf xs=>some (.slf xs)
 | .slz xs=>some (.slz xs)
 | .arr j g=>some (.arr j g)
 | .ptr j off=>match off with|0=>some (.ptr j 0)|n+1=>some (.ptr j (n+1))
 | .pp cs off=>match off with|0=>some (.pp cs 0)|n+1=>some (.pp cs (n+1))
 | .ep j g k off=>match off with|0=>some (.ep j g k 0)|n+1=>some (.ep j g k (n+1))
 | .hd j g off len=>some (.hd j g off len)
 | .bs j off len cap=>some (.bs j off len cap)
 | .fn f a b=>some (.fn f a b)
 | .mp j=>some (.mp j)
 | .ifc t x=>some (.ifc t x)
theorem open1_eq {a b:AVal} (h:open1 a=some b):b=a:=by
 cases a<;>simp only [open1] at h
 case agg cs =>
  split at h
  ·rename_i cs' hc;injection h with h;rw [←h,spine_eq hc]
  ·cases h
 case ptr j off=>cases off<;>(simp only at h;injection h with h;exact h.symm)
 case pp cs off=>cases off<;>(simp only at h;injection h with h;exact h.symm)
 case ep j g k off=>cases off<;>(simp only at h;injection h with h;exact h.symm)
 all_goals (injection h with h;exact h.symm)
def isOpen:Op→Bool
 | .load .. | .field .. | .fieldAddr .. | .build ..=>true
 | _=>false
def opA (tab:List TyRow) (o:Op) (F:Fr) (H:List AObj):Option (K × AVal × List AObj) :=
 match readP tab o F with
 | some v=>cond (isOpen o) (match open1 v with|some v=>some (.p,v,H)|none=>none) (some (.p,v,H))
 | none=>match loadB tab o F H with
  | some v=>match open1 v with|some v=>some (.r,v,H)|none=>none
  | none=>match allocB tab o F with
   | some a=>match lenH H,nrmO a with
    | some n,some a=>match nrmH (H++[a]) with
     | some H'=>some (.x,.ptr n 0,H')
     | none=>none
    | _,_=>none
   | none=>match storeB tab o F H with
    | some H'=>match nrmH H' with
     | some H'=>some (.m,.tup [],H')
     | none=>none
    | none=>none
section
variable {P:Program}
theorem opA_sem [T:TyTab P] {dst:Option Tmp} {o:Op} {type:TypeId} {pos:String} {after:Array Edge} {guard:Option (Nat × Bool)} {F:Fr} {H H':List AObj} {k:K} {v:AVal}
  (h:opA T.tab o F H=some (k,v,H')):DSem P k ⟨dst,o,type,pos,after,guard⟩ F H v H':=by
 unfold opA at h
 split at h
 ·rename_i w hw
  cases ho:isOpen o<;>rw [ho] at h
  ·simp only [cond_false,Option.some.injEq,Prod.mk.injEq] at h
   obtain ⟨rfl,rfl,rfl⟩:=h
   exact readP_dsem hw
  ·simp only [cond_true] at h
   split at h
   ·rename_i w' hw'
    simp only [Option.some.injEq,Prod.mk.injEq] at h
    obtain ⟨rfl,rfl,rfl⟩:=h
    rw [open1_eq hw']
    exact readP_dsem hw
   ·cases h
 ·split at h
  ·rename_i w hw
   split at h
   ·rename_i w' hw'
    simp only [Option.some.injEq,Prod.mk.injEq] at h
    obtain ⟨rfl,rfl,rfl⟩:=h
    rw [open1_eq hw']
    exact loadB_dsem hw
   ·cases h
  ·split at h
   ·rename_i a ha
    split at h
    ·rename_i n a' hn ha'
     split at h
     ·rename_i H1 hH1
      simp only [Option.some.injEq,Prod.mk.injEq] at h
      obtain ⟨rfl,rfl,rfl⟩:=h
      rw [nrmH_eq hH1,nrmO_eq ha',lenH_eq hn]
      exact allocB_dsem ha
     ·cases h
    ·cases h
   ·split at h
    ·rename_i w hw
     split at h
     ·rename_i H1 hH1
      simp only [Option.some.injEq,Prod.mk.injEq] at h
      obtain ⟨rfl,rfl,rfl⟩:=h
      rw [nrmH_eq hH1]
      exact storeB_sem hw
     ·cases h
    ·cases h
end
def putA (n:Nat) (d:Option Tmp) (v:AVal) (F:Fr):Option Fr :=
 match d with
 | some d=>cond (Nat.blt d n) (some ((d,v)::F)) none
 | none=>some F
theorem putA_ok {n:Nat} {d:Option Tmp} {v:AVal} {F F':Fr} (h:putA n d v F=some F'):dstOk n d=true∧F'=fput F d v:=by
 cases d with
 | none=>simp [putA] at h;exact ⟨rfl,h.symm⟩
 | some d =>
  simp only [putA] at h
  cases hb:Nat.blt d n<;>rw [hb] at h<;>simp at h
  exact ⟨hb,h.symm⟩
def stpO (tab:List TyRow) (n:Nat) (ops:Array Oper) (o:Oper) (kk:K) (F:Fr) (H:List AObj):Option (Fr × List AObj) :=
 match guardA ops F o with
 | some true=>match opA tab o.op F H with
  | some (k,v,H')=>cond (k.le kk) (match putA n o.dst v F with|some F'=>some (F',H')|none=>none) none
  | none=>none
 | some false=>match putA n o.dst (.tup []) F with|some F'=>some (F',H)|none=>none
 | none=>none
def stp (tab:List TyRow) (n:Nat) (F:Fr) (H:List AObj):Pt→Option (Pt × Fr × List AObj)
 | .c x k=>match x with
  | .seq x y=>some (.c x (.seq y k),F,H)
  | .block id x=>some (.c x (.blk id k),F,H)
  | .skip=>some (.e .normal k,F,H)
  | .ret=>some (.e .ret k,F,H)
  | .exit id=>some (.e (.exit id) k,F,H)
  | .region _ ops false=>some (.l ops ops.toList k,F,H)
  | .cond c x y=>match ev F c with
   | some (.v (.bool b))=>match b with
    | true=>some (.c x k,F,H)
    | false=>some (.c y k,F,H)
   | _=>none
  | _=>none
 | .l ops l k=>match l with
  | []=>some (.e .normal k,F,H)
  | o::l=>match stpO tab n ops o .m F H with
   | some (F',H')=>some (.l ops l k,F',H')
   | none=>none
 | .d ops l k=>match l with
  | []=>some (.e .normal k,F,H)
  | (_,o,kk)::l=>match stpO tab n ops o kk F H with
   | some (F',H')=>some (.d ops l k,F',H')
   | none=>none
 | .e x k=>match x,k with
  | .normal,.seq y k=>some (.c y k,F,H)
  | .normal,.blk _ k=>some (.e .normal k,F,H)
  | .exit i,.blk j k=>cond (Nat.beq i j) (some (.e .normal k,F,H)) (some (.e (.exit i) k,F,H))
  | .exit i,.seq _ k=>some (.e (.exit i) k,F,H)
  | .exit i,.lp _ k=>some (.e (.exit i) k,F,H)
  | .ret,.blk _ k=>some (.e .ret k,F,H)
  | .ret,.seq _ k=>some (.e .ret k,F,H)
  | .ret,.lp _ k=>some (.e .ret k,F,H)
  | _,_=>none
section
variable {P:Program} {G:Gh} {Q:APost}
theorem stpO_ok [T:TyTab P] {n:Nat} {ops:Array Oper} {o:Oper} {kk:K} {F F':Fr} {H H':List AObj} (h:stpO T.tab n ops o kk F H=some (F',H')) :
  ∃ v,dstOk n o.dst=true∧F'=fput F o.dst v∧DStep P ops kk o F H v H':=by
 unfold stpO at h
 split at h
 ·rename_i hg
  split at h
  ·rename_i k v H1 ho
   cases hk:k.le kk<;>rw [hk] at h
   ·cases h
   ·simp only [cond_true] at h
    split at h
    ·rename_i F1 hp
     simp only [Option.some.injEq,Prod.mk.injEq] at h
     obtain ⟨rfl,rfl⟩:=h
     obtain ⟨h1,h2⟩:=putA_ok hp
     exact ⟨v,h1,h2,.inl ⟨hg,(opA_sem ho).up hk⟩⟩
    ·cases h
  ·cases h
 ·rename_i hg
  split at h
  ·rename_i F1 hp
   simp only [Option.some.injEq,Prod.mk.injEq] at h
   obtain ⟨rfl,rfl⟩:=h
   obtain ⟨h1,h2⟩:=putA_ok hp
   exact ⟨_,h1,h2,.inr ⟨hg,rfl,rfl⟩⟩
  ·cases h
 ·cases h
theorem awl_any {ops:Array Oper} {o:Oper} {l:List Oper} {kk:K} {F:Fr} {H H':List AObj} {v:AVal} (hd:dstOk G.n o.dst=true) (h:DStep P ops kk o F H v H') (next:AWL P G ops Q l (fput F o.dst v) H'):AWL P G ops Q (o::l) F H:=by
 rcases h with ⟨hg,h⟩|⟨hg,rfl,rfl⟩
 ·exact awl_op hd hg h.op next
 ·exact awl_no hd hg next
theorem js [T:TyTab P] {s s':Pt} {F F':Fr} {H H':List AObj} (h:stp T.tab G.n F H s=some (s',F',H')) (next:J P G Q s' F' H'):J P G Q s F H:=by
 cases s with
 | c x k =>
  simp only [stp] at h
  split at h
  ·injection h with h;injection h with h1 h2;injection h2 with h2 h3;subst h1;subst h2;subst h3;exact aw_seq next
  ·injection h with h;injection h with h1 h2;injection h2 with h2 h3;subst h1;subst h2;subst h3;exact aw_block next
  ·injection h with h;injection h with h1 h2;injection h2 with h2 h3;subst h1;subst h2;subst h3;exact aw_skip next
  ·injection h with h;injection h with h1 h2;injection h2 with h2 h3;subst h1;subst h2;subst h3;exact aw_ret next
  ·injection h with h;injection h with h1 h2;injection h2 with h2 h3;subst h1;subst h2;subst h3;exact aw_exit next
  ·injection h with h;injection h with h1 h2;injection h2 with h2 h3;subst h1;subst h2;subst h3;exact aw_region next
  ·split at h
   ·rename_i b hc
    split at h
    ·injection h with h;injection h with h1 h2;injection h2 with h2 h3;subst h1;subst h2;subst h3;exact aw_cond_t hc next
    ·injection h with h;injection h with h1 h2;injection h2 with h2 h3;subst h1;subst h2;subst h3;exact aw_cond_f hc next
   ·cases h
  ·cases h
 | l ops l k =>
  simp only [stp] at h
  split at h
  ·injection h with h;injection h with h1 h2;injection h2 with h2 h3;subst h1;subst h2;subst h3;exact (awl_nil (ops:=ops) (G:=G) (P:=P) next)
  ·split at h
   ·rename_i F1 H1 ho
    injection h with h;injection h with h1 h2;injection h2 with h2 h3;subst h1;subst h2;subst h3
    obtain ⟨v,h1,rfl,h3⟩:=stpO_ok ho
    exact awl_any h1 h3 next
   ·cases h
 | d ops l k =>
  simp only [stp] at h
  split at h
  ·injection h with h;injection h with h1 h2;injection h2 with h2 h3;subst h1;subst h2;subst h3;exact next
  ·split at h
   ·rename_i F1 H1 ho
    injection h with h;injection h with h1 h2;injection h2 with h2 h3;subst h1;subst h2;subst h3
    obtain ⟨v,h1,rfl,h3⟩:=stpO_ok ho
    exact ⟨dstOk_ok h1,v,_,h3,next⟩
   ·cases h
 | e x k =>
  simp only [stp] at h
  split at h
  ·injection h with h;injection h with h1 h2;injection h2 with h2 h3;subst h1;subst h2;subst h3;exact next
  ·injection h with h;injection h with h1 h2;injection h2 with h2 h3;subst h1;subst h2;subst h3;exact next
  ·rename_i i j k
   show cond (Nat.beq i j) (post P G Q k .normal F H) (post P G Q k (.exit i) F H)
   cases hb:Nat.beq i j<;>rw [hb] at h <;>
    (injection h with h;injection h with h1 h2;injection h2 with h2 h3;subst h1;subst h2;subst h3;exact next)
  ·injection h with h;injection h with h1 h2;injection h2 with h2 h3;subst h1;subst h2;subst h3;exact next
  ·injection h with h;injection h with h1 h2;injection h2 with h2 h3;subst h1;subst h2;subst h3;exact next
  ·injection h with h;injection h with h1 h2;injection h2 with h2 h3;subst h1;subst h2;subst h3;exact next
  ·injection h with h;injection h with h1 h2;injection h2 with h2 h3;subst h1;subst h2;subst h3;exact next
  ·injection h with h;injection h with h1 h2;injection h2 with h2 h3;subst h1;subst h2;subst h3;exact next
  ·cases h
end
end Go.AL
namespace Go.AL
open Go
section
variable {P:Program} {G:Gh} {Q:APost} {F F':Fr} {H H':List AObj} {k:Kt}
theorem jdraw [T:TyTab P] {id:Nat} {l:List Oper} (hc:drawOk l (plan0 0 l)=true) (next:J P G Q (.d l.toArray (plan0 0 l) k) F H):J P G Q (.c (.region id l.toArray true) k) F H:=aw_draw hc next
theorem jdrawP [T:TyTab P] {id:Nat} {l:List Oper} (pl:List (Nat × K)) (hp:pl.all (fun x=>Nat.blt x.1 l.length)=true) (hc:drawOk l (plan l pl)=true)
  (next:J P G Q (.d l.toArray (plan l pl) k) F H):J P G Q (.c (.region id l.toArray true) k) F H:=aw_drawP pl hp hc next
def nextO:Pt→Option (Array Oper × Oper × Option K × Pt)
 | .l ops l k=>match l with
  | []=>none
  | o::l=>some (ops,o,none,.l ops l k)
 | .d ops l k=>match l with
  | []=>none
  | (_,o,kk)::l=>some (ops,o,some kk,.d ops l k)
 | _=>none
def okK (k:K):Option K→Bool
 | none=>true
 | some kk=>k.le kk
theorem jo {s s':Pt} {ops:Array Oper} {o:Oper} {kk:Option K} {kd:K} {v:AVal} (h:nextO s=some (ops,o,kk,s')) (hg:guardA ops F o=some true) (hd:DSem P kd o F H v H') (hk:okK kd kk=true) (hp:putA G.n o.dst v F=some F')
  (next:J P G Q s' F' H'):J P G Q s F H:=by
 obtain ⟨h1,rfl⟩:=putA_ok hp
 cases s with
 | c=>cases h
 | e=>cases h
 | l os l k =>
  simp only [nextO] at h
  split at h
  ·cases h
  ·injection h with h;injection h with h2 h3;injection h3 with h3 h4;injection h4 with h4 h5;subst h2;subst h3;subst h5
   exact awl_op h1 hg hd.op next
 | d os l k =>
  simp only [nextO] at h
  split at h
  ·cases h
  ·injection h with h;injection h with h2 h3;injection h3 with h3 h4;injection h4 with h4 h5;subst h2;subst h3;subst h4;subst h5
   exact ⟨dstOk_ok h1,v,H',.inl ⟨hg,hd.up hk⟩,next⟩
theorem jbu [T:TyTab P] {s s':Pt} {ops:Array Oper} {dst:Option Tmp} {o:Op} {type:TypeId} {pos:String} {after:Array Edge} {guard:Option (Nat × Bool)} {kk:Option K} {v:AVal} (h:nextO s=some (ops,⟨dst,o,type,pos,after,guard⟩,kk,s')) (hb:buildB T.tab o F=some v)
  (hg:guardA ops F ⟨dst,o,type,pos,after,guard⟩=some true) (hp:putA G.n dst v F=some F') (next:J P G Q s' F' H):J P G Q s F H :=
 jo h hg (buildB_dsem hb) (by cases kk<;>rfl) hp next
theorem ltV_rn {τ:Nat→Nat}:∀ {v:AVal},ltV 0 v=true→rnV τ v=v:=by
 intro v
 refine AVal.rec (motive_1:=fun v=>ltV 0 v=true→rnV τ v=v) (motive_2:=fun l=>ltL 0 l=true→rnL τ l=l) ?_ ?_ ?_ ?_ ?_ ?_ ?_ ?_ ?_ ?_ ?_ ?_ ?_ ?_ ?_ ?_ ?_ v
 all_goals intros
 all_goals try simp_all [ltV,ltL,rnV,rnL]
theorem ltL_rn {τ:Nat→Nat}:∀ {l:List AVal},ltL 0 l=true→rnL τ l=l
 | [],_=>rfl
 | x::xs,h=>by
  simp only [ltL,Bool.and_eq_true] at h
  simp only [rnL,ltV_rn h.1,ltL_rn h.2]
def callO (F:Fr) (o:Op):Option (FuncId × List AVal) :=
 match o with
 | .call c=>match c.callee with
  | .value fo=>match ev F fo,evs F c.args.toList with
   | some (.fn (.func g) first cap),some vs=>some (g,first++vs++cap)
   | _,_=>none
  | _=>none
 | _=>none
theorem callO_sem {dst:Option Tmp} {o:Op} {type:TypeId} {pos:String} {after:Array Edge} {guard:Option (Nat × Bool)} {f:FuncId} {args:List AVal} (h:callO F o=some (f,args)) {res:Eff} (hc:ACalls P f args H res) :
  OpSem P ⟨dst,o,type,pos,after,guard⟩ F H res:=by
 unfold callO at h
 split at h
 ·rename_i c
  split at h
  ·rename_i fo hfo
   split at h
   ·rename_i g first cap vs hf ha
    simp only [Option.some.injEq,Prod.mk.injEq] at h
    obtain ⟨rfl,rfl⟩:=h
    obtain ⟨callee,asL,ts⟩:=c
    subst hfo
    exact call_sem hf ha hc
   ·cases h
  ·cases h
 ·cases h
theorem callV {f:FuncId} {args:List AVal} {v:AVal} (hc:ACalls P f args [] (one v [])) {dst:Option Tmp} {o:Op} {type:TypeId} {pos:String} {after:Array Edge} {guard:Option (Nat × Bool)} (h:callO F o=some (f,args))
  (hl:(ltL 0 args&&ltV 0 v)=true):DSem P .p ⟨dst,o,type,pos,after,guard⟩ F H v H:=by
 simp only [Bool.and_eq_true] at hl
 refine ⟨rfl,fun H'=>callO_sem h ?_⟩
 have:=hc.from (Hc:=H') [] rfl rfl hl.1 rfl (fun i j h=>by simp at h)
 rw [ltL_rn hl.1] at this
 refine this.mono ?_
 rintro r G ⟨r0,Ho,⟨rfl,rfl⟩,_,rfl,rfl⟩
 exact ⟨by show ARes.ret (rnV _ v)=_;rw [ltV_rn hl.2],by simp [putBack]⟩
theorem jv {f:FuncId} {args:List AVal} {v:AVal} (hc:ACalls P f args [] (one v [])) {s s':Pt} {ops:Array Oper} {dst:Option Tmp} {o:Op} {type:TypeId} {pos:String} {after:Array Edge} {guard:Option (Nat × Bool)} {kk:Option K}
  (h:nextO s=some (ops,⟨dst,o,type,pos,after,guard⟩,kk,s')) (ho:callO F o=some (f,args)) (hg:guardA ops F ⟨dst,o,type,pos,after,guard⟩=some true) (hl:(ltL 0 args&&ltV 0 v)=true) (hp:putA G.n dst v F=some F')
  (next:J P G Q s' F' H):J P G Q s F H :=
 jo h hg (callV hc ho hl) (by cases kk<;>rfl) hp next
def sigA (σ:List Nat) (Hc H:List AObj) (args0 args:List AVal):Prop :=
 rnL (tau σ Hc.length) args0=args∧sigOk σ Hc.length=true∧σ.length=H.length∧ltL σ.length args0=true∧H.all (ltO σ.length)=true∧σ.map (fun j=>Hc[j]?)=H.map (fun o=>some (rnO (tau σ Hc.length) o))
theorem callB (σ:List Nat) {f:FuncId} {args0 args:List AVal} {v v':AVal} {Hc Hc':List AObj} (hc:ACalls P f args0 H (one v H')) {dst:Option Tmp} {o:Op} {type:TypeId} {pos:String} {after:Array Edge} {guard:Option (Nat × Bool)} (h:callO F o=some (f,args))
  (hσ:sigA σ Hc H args0 args) (hv:nrm (rnV (tau σ Hc.length) v)=some v') (hH:nrmH (putBack (tau σ Hc.length) σ Hc H')=some Hc'):DSem P .m ⟨dst,o,type,pos,after,guard⟩ F Hc v' Hc':=by
 obtain ⟨h1,h2,h3,h4,h5,h6⟩:=hσ
 have hf:=hc.from σ h2 h3 h4 h5 (fun i j hij=>by
  have:=congrArg (fun l=>l[i]?) h6
  simp only [List.getElem?_map,hij,Option.map_some] at this
  cases hi:H[i]? with
  | none=>rw [hi] at this;cases this
  | some o=>rw [hi] at this;simpa using this)
 rw [h1] at hf
 refine callO_sem h (hf.mono ?_)
 rintro r G ⟨r0,Ho,⟨rfl,rfl⟩,_,rfl,rfl⟩
 exact ⟨by rw [nrm_eq _ hv],(nrmH_eq hH).symm⟩
theorem jb (σ:List Nat) {f:FuncId} {args0 args:List AVal} {v v':AVal} {H0 H1:List AObj} (hc:ACalls P f args0 H0 (one v H1)) {s s':Pt} {ops:Array Oper} {dst:Option Tmp} {o:Op} {type:TypeId} {pos:String} {after:Array Edge} {guard:Option (Nat × Bool)} {kk:Option K}
  (h:nextO s=some (ops,⟨dst,o,type,pos,after,guard⟩,kk,s')) (ho:callO F o=some (f,args)) (hg:guardA ops F ⟨dst,o,type,pos,after,guard⟩=some true) (hσ:sigA σ H H0 args0 args)
  (hv:nrm (rnV (tau σ H.length) v)=some v') (hH:nrmH (putBack (tau σ H.length) σ H H1)=some H') (hk:okK .m kk=true) (hp:putA G.n dst v' F=some F') (next:J P G Q s' F' H'):J P G Q s F H :=
 jo h hg (callB σ hc ho hσ hv hH) hk hp next
theorem jbx (σ:List Nat) {f:FuncId} {args0 args:List AVal} {v v':AVal} {H0 H1:List AObj} (hc:ACalls P f args0 H0 (one v H1)) {s s':Pt} {ops:Array Oper} {dst:Option Tmp} {o:Op} {type:TypeId} {pos:String} {after:Array Edge} {guard:Option (Nat × Bool)} {kk:Option K}
  (h:nextO s=some (ops,⟨dst,o,type,pos,after,guard⟩,kk,s')) (ho:callO F o=some (f,args)) (hg:guardA ops F ⟨dst,o,type,pos,after,guard⟩=some true) (hσ:sigA σ H H0 args0 args)
  (hv:nrm (rnV (tau σ H.length) v)=some v') (hH:nrmH (putBack (tau σ H.length) σ H H1)=some H') (hb:SameBox H H') (hk:okK .x kk=true) (hp:putA G.n dst v' F=some F') (next:J P G Q s' F' H'):J P G Q s F H :=
 jo h hg ((callB σ hc ho hσ hv hH).x hb) hk hp next
theorem jif {c:Operand} {x y:Code} {b:Bool} (hc:ev F c=some (.v (.bool b))) (ht:b=true→J P G Q (.c x k) F H) (hf:b=false→J P G Q (.c y k) F H):J P G Q (.c (.cond c x y) k) F H:=aw_cond hc ht hf
def fsetO:Fr→Nat→AVal→Option Fr
 | [],_,_=>none
 | (k,x)::r,t,v=>cond (Nat.beq k t) (some ((k,v)::r)) (match fsetO r t v with|some r'=>some ((k,x)::r')|none=>none)
theorem fsetO_same:∀ {F F':Fr} {t:Nat} {v:AVal},fget F t=some v→fsetO F t v=some F'→F'=F
 | [],_,_,_,h,_=>by cases h
 | (k,x)::r,F',t,v,h,h'=>by
  simp only [fget] at h
  simp only [fsetO] at h'
  cases hb:Nat.beq k t with
  | true=>rw [hb] at h h';simp at h h';subst h;exact h'.symm
  | false =>
   rw [hb] at h h';simp only [cond_false] at h h'
   split at h'
   ·rename_i r' hr;injection h' with h';rw [←h',fsetO_same h hr]
   ·cases h'
theorem jc {c:Tmp} {x y:Code} {b:Bool} {F1 F2:Fr} (hc:fget F c=some (.v (.bool b))) (h1:fsetO F c (.v (.bool true))=some F1) (h2:fsetO F c (.v (.bool false))=some F2)
  (ht:b=true→J P G Q (.c x k) F1 H) (hf:b=false→J P G Q (.c y k) F2 H):J P G Q (.c (.cond (.tmp c) x y) k) F H:=by
 refine jif (b:=b) hc (fun h=>?_) (fun h=>?_)
 ·have:=ht h;subst h;rwa [fsetO_same hc h1] at this
 ·have:=hf h;subst h;rwa [fsetO_same hc h2] at this
def guardT (s:Pt):Option Nat:=match nextO s with
 | some (ops,o,_,_)=>gtmp ops o.guard
 | none=>none
theorem jg {s:Pt} {t:Nat} {b:Bool} {F1 F2:Fr} (ht:guardT s=some t) (hb:fget F t=some (.v (.bool b))) (h1:fsetO F t (.v (.bool true))=some F1) (h2:fsetO F t (.v (.bool false))=some F2)
  (hT:b=true→J P G Q s F1 H) (hF:b=false→J P G Q s F2 H):J P G Q s F H:=by
 cases b with
 | true=>rw [fsetO_same hb h1] at hT;exact hT rfl
 | false=>rw [fsetO_same hb h2] at hF;exact hF rfl
theorem jheap {s:Pt} (H':List AObj) (e:H=H') (next:J P G Q s F H'):J P G Q s F H:=by subst e;exact next
theorem jloop {c:Code} {ι:Type} (n:Nat) (I:ι→Prop) (ts:List Nat) (V:ι→List AVal) (HH:ι→List AObj) (μ:ι→Nat) (i0:ι) (hβ:G.β0.length≤n) (hI:I i0) (h0:fproj F ts=some (V i0)) (hH:H=HH i0)
  (round:∀ i,I i→J P G Q (.c c (.lp (Round n I ts V HH μ i) k)) (ts.zip (V i)) (HH i)):J P G Q (.c (.loop c) k) F H :=
 aw_loopF n I ts V HH μ i0 hβ hI h0 hH round
theorem jnext {ι:Type} {n:Nat} {I:ι→Prop} {ts:List Nat} {V:ι→List AVal} {HH:ι→List AObj} {μ:ι→Nat} {i:ι} (i':ι) {vs vs':List AVal} {H'':List AObj} (hI:I i') (hμ:μ i' < μ i) (hp:fproj F ts=some vs)
  (hf:finish n [] true H (.tup vs)=some (.tup vs',H'')) (hn:Nat.ble n H.length=true) (hV:vs'=V i') (hH:H''=HH i'):J P G Q (.e .normal (.lp (Round n I ts V HH μ i) k)) F H :=
 ⟨i',hI,hμ,true,vs,vs',H'',hp,hf,hn,hV,hH⟩
theorem jret {tab:List TyRow} {rs:List ResultVar} {n:Nat} {E:Eff} {r r':AVal} (ks:List Nat) (wk:Bool) (h1:resA tab rs F H=some r) (h2:keepOk n ks=true) (h3:finish n ks wk H r=some (r',H'))
  (h4:E (.ret r') H'):J P G (BodyQ tab rs n E) (.e .ret .nil) F H:=bodyQ_ret ks wk h1 h2 h3 h4
theorem jend {tab:List TyRow} {rs:List ResultVar} {n:Nat} {E:Eff} {r r':AVal} (ks:List Nat) (wk:Bool) (h1:resA tab rs F H=some r) (h2:keepOk n ks=true) (h3:finish n ks wk H r=some (r',H'))
  (h4:E (.ret r') H'):J P G (BodyQ tab rs n E) (.e .normal .nil) F H:=bodyQ_end ks wk h1 h2 h3 h4
theorem jr {tab:List TyRow} {rs:List ResultVar} {n:Nat} {r r' v:AVal} {Hv:List AObj} (h1:resA tab rs F H=some r) (h3:finish n [] true H r=some (r',H')) (h4:r'=v) (h5:H'=Hv):J P G (BodyQ tab rs n (one v Hv)) (.e .ret .nil) F H :=
 bodyQ_ret [] true h1 rfl h3 (one_ok h4.symm.symm h5)
theorem jcalls [T:TyTab P] {f:FuncId} {fn:Func} {c:Code} {args:List AVal} {Q:Eff} {N:Nat} {rs:List ResultVar} (hf:P.funcs[f]? = some fn) (hb:fn.body=some c) (hname:(fn.name == "runtime.NumGoroutine")=false)
  (hN:fn.ntmps=N) (hl:Nat.ble args.length N=true) (hrs:fn.results.toList=rs)
  (h:∀ w0 β0 ext,β0.length=H.length→J P ⟨w0,β0,ext,N,[],none,false⟩ (BodyQ T.tab rs H.length Q) (.c c .nil) (params 0 args) H):ACalls P f args H Q :=
 acalls_intro hf hb hname hN hl hrs h
theorem jq {s s':Pt} {ops:Array Oper} {d:Tmp} {o:Op} {type:TypeId} {pos:String} {after:Array Edge} {guard:Option (Nat × Bool)} {res:Eff} (h:nextO s=some (ops,⟨some d,o,type,pos,after,guard⟩,none,s')) (hg:guardA ops F ⟨some d,o,type,pos,after,guard⟩=some true)
  (hd:Nat.blt d G.n=true) (ho:OpSem P ⟨some d,o,type,pos,after,guard⟩ F H res) (next:∀ r H',res r H'→∃ v,r = .ret v∧J P G Q s' ((d,v)::F) H'):J P G Q s F H:=by
 cases s with
 | c=>cases h
 | e=>cases h
 | l os l k =>
  simp only [nextO] at h
  split at h
  ·cases h
  ·injection h with h;injection h with h2 h3;injection h3 with h3 h4;injection h4 with h4 h5;subst h2;subst h3;subst h5
   exact awl_q hd hg ho next
 | d os l k =>
  simp only [nextO] at h
  split at h
  ·cases h
  ·injection h with h;injection h with h2 h3;injection h3 with h3 h4;injection h4 with h4 h5;cases h4
end
end Go.AL
namespace Go.AL
open Go
theorem fsetO_get:∀ {F F':Fr} {t:Nat} {v:AVal},fsetO F t v=some F'→∀ s u,fget F' s=some u→fget ((t,v)::F) s=some u
 | [],_,_,_,h,_,_,_=>by cases h
 | (k,x)::r,F',t,v,h,s,u,hs=>by
  simp only [fsetO] at h
  cases hb:Nat.beq k t with
  | true =>
   rw [hb] at h;simp at h;subst h
   have hk:=Nat.eq_of_beq_eq_true hb
   subst hk
   simp only [fget] at hs ⊢
   cases h2:Nat.beq k s with
   | true=>rw [h2] at hs;simpa using hs
   | false=>rw [h2] at hs;simpa [h2] using hs
  | false =>
   rw [hb] at h;simp only [cond_false] at h
   split at h
   ·rename_i r' hr
    injection h with h;subst h
    have ih:=fsetO_get hr s u
    simp only [fget] at hs ih ⊢
    cases h2:Nat.beq k s with
    | true =>
     rw [h2] at hs;simp only [cond_true] at hs
     cases h3:Nat.beq t s with
     | true =>
      have e1:=Nat.eq_of_beq_eq_true h2
      have e2:=Nat.eq_of_beq_eq_true h3
      subst e1;subst e2;simp at hb
     | false=>simpa using hs
    | false =>
     rw [h2] at hs;simp only [cond_false] at hs
     have ih:=ih hs
     cases h3:Nat.beq t s with
     | true=>rw [h3] at ih;simpa using ih
     | false=>rw [h3] at ih;simpa using ih
   ·cases h
def hsetO:List AObj→Nat→AObj→Option (List AObj)
 | [],_,_=>none
 | _::r,0,o=>some (o::r)
 | x::r,n+1,o=>match hsetO r n o with|some r'=>some (x::r')|none=>none
theorem hsetO_eq:∀ {H H':List AObj} {j:Nat} {o:AObj},hsetO H j o=some H'→H'=H.set j o
 | [],_,_,_,h=>by cases h
 | _::r,_,0,o,h=>by simp [hsetO] at h;simp [h]
 | x::r,H',n+1,o,h=>by
  simp only [hsetO] at h
  split at h
  ·rename_i r' hr;injection h with h;rw [←h,hsetO_eq hr];rfl
  ·cases h
section
variable {P:Program} {G:Gh} {Q:APost} {F F':Fr} {H H':List AObj} {k:Kt}
theorem jad {c:Code} (t:Nat) (bt:TypeId) (es:Nat) {n:Nat} (ht:fget F t=some (.slf [])) (hn:lenH H=some n) (hF:fsetO F t (.arr n 1)=some F') (hH:nrmH (H++[.arr 1 bt es []])=some H') (h:J P G Q (.c c k) F' H'):J P G Q (.c c k) F H:=by
 have hp:fproj F [t]=some ([t].map fun _=>.slf []):=by simp [fproj,ht]
 refine aw_adopt [t] bt es hp ?_
 rw [lenH_eq hn] at hF
 rw [nrmH_eq hH] at h
 exact aw_frame F' (fsetO_get hF) h
theorem jpub {c:Code} (t:Nat) {j g es:Nat} {e:TypeId} {xs:List AVal} (ht:fget F t=some (.arr j g)) (hj:H[j]? = some (.arr g e es xs)) (hF:fsetO F t (.sl xs)=some F') (hH:hsetO H j (.dead (g+1))=some H') (h:J P G Q (.c c k) F' H'):J P G Q (.c c k) F H:=by
 have hp:fproj F [t]=some ([t].map fun _=>.arr j g):=by simp [fproj,ht]
 refine aw_publish [t] (g+1) (by simp [Nat.blt_eq]) hp t ht hj ?_
 rw [hsetO_eq hH] at h
 exact aw_frame F' (fsetO_get hF) h
theorem append_enc [T:TyTab P] {dst:Option Tmp} {t tx:TypeId} {x y:Operand} {type:TypeId} {pos:String} {after:Array Edge} {guard:Option (Nat × Bool)} {j g:Nat} {α:Type} {enc:α→AVal} {l:List α} (a:α) {b:AVal} {ys:List AVal} {e ex:TypeId} {r r' rx:TyRow}
  (hx:ev F x=some (.arr j g)) (hj:H[j]? = some (.arr g e r.size (l.map enc))) (hy:ev F y=some b) (hb:xsOf b=some ys) (hys:ys=[enc a]) (ht:tfind T.tab t=some r') (hd:r'.d = .slice e) (he:tfind T.tab e=some r) (htx:tfind T.tab tx=some rx) (hdx:rx.d = .slice ex)
  (ho:∀ x,(enc x).cells.length=r.size∧(enc x).flat=true) (hz:zerosOk r=true) (hl:l.length≤1000000) (hbt:Nat.ble r.bytes 100000000=true) (hH:hsetO H j (.arr (g+1) e r.size ((l++[a]).map enc))=some H') :
  DSem P .x ⟨dst,.call { callee:=.builtin .append,args:=#[x,y],argTypes:=#[t,tx] },type,pos,after,guard⟩ F H (.arr j (g+1)) H':=by
 subst hys
 have hbt:=Nat.le_of_ble_eq_true hbt
 have h1:(l.length+1)*r.bytes≤1000001*100000000:=Nat.mul_le_mul (by omega) hbt
 have:=append_own (P:=P) (dst:=dst) (type:=type) (pos:=pos) (after:=after) (guard:=guard) hx hj hy (.sl hb) ht hd he htx hdx (elems_map l ho) (show ElemsOk r.size [enc a] from elems_map [a] ho) hz (by simp;omega) (by simp;omega)
 rw [hsetO_eq hH,List.map_append]
 exact this
theorem cut_enc [T:TyTab P] {dst:Option Tmp} {t:TypeId} {x:Operand} {lo hi:Option Operand} {type:TypeId} {pos:String} {after:Array Edge} {guard:Option (Nat × Bool)} {a:AVal} {α:Type} {enc:α→AVal} {l:List α} {e:TypeId} {r r':TyRow} (p q:Nat)
  (hx:ev F x=some a) (ha:xsOf a=some (l.map enc)) (hlo:match lo with|none=>(p:Int)=0|some o=>∃ k,ev F o=some (.v (.int k p))) (hhi:match hi with|none=>(q:Int)=(l.map enc).length|some o=>∃ k,ev F o=some (.v (.int k q)))
  (ht:tfind T.tab t=some r') (hd:r'.d = .slice e) (he:tfind T.tab e=some r) (ho:∀ x,(enc x).cells.length=r.size∧(enc x).flat=true) (h1:p≤q) (h2:q≤l.length) :
  DSem P .p ⟨dst,.slice t x lo hi none,type,pos,after,guard⟩ F H (.sl (((l.drop p).take (q-p)).map enc)) H:=by
 have:=cut_sl (P:=P) (dst:=dst) (type:=type) (pos:=pos) (after:=after) (guard:=guard) (H:=H) (l:=p) (h:=q) hx ha hlo hhi ht hd he (elems_map l ho) (by omega) (by omega) (by simp;omega)
 simpa [List.map_take,List.map_drop] using this
theorem cut_take [T:TyTab P] {dst:Option Tmp} {t:TypeId} {x o:Operand} {type:TypeId} {pos:String} {after:Array Edge} {guard:Option (Nat × Bool)} {a:AVal} {α:Type} {enc:α→AVal} {l:List α} {e:TypeId} {r r':TyRow} {k:IntKind} {h:Int} (n:Nat)
  (hx:ev F x=some a) (ha:xsOf a=some (l.map enc)) (hhi:ev F o=some (.v (.int k h))) (hh:h=(min l.length n:Nat))
  (ht:tfind T.tab t=some r') (hd:r'.d = .slice e) (he:tfind T.tab e=some r) (ho:∀ x,(enc x).cells.length=r.size∧(enc x).flat=true) :
  DSem P .p ⟨dst,.slice t x none (some o) none,type,pos,after,guard⟩ F H (.sl ((l.take n).map enc)) H:=by
 subst hh
 have:=cut_enc (P:=P) (dst:=dst) (type:=type) (pos:=pos) (after:=after) (guard:=guard) (H:=H) (lo:=none) (hi:=some o) 0 (min l.length n) hx ha rfl ⟨k,hhi⟩ ht hd he ho (by omega) (by omega)
 have e1:l.take (min l.length n)=l.take n:=List.take_eq_take_iff.2 (by omega)
 simpa [e1] using this
theorem idx_next {i n:Nat} (h:i < n) (hn:n≤4611686018427387904):IntKind.i64.wrap ((i:Int)+1)=((i+1:Nat):Int):=by rw [wrap_id]<;>omega
end
end Go.AL
namespace Go.AL
open Go
section
variable {P:Program} {G:Gh} {Q:APost} {F F':Fr} {H H':List AObj} {k:Kt}
theorem run_sliceBound {i:Int} {y:Nat} {ki:IntKind} {code:BoundsCode} {w:World} (h0:0≤i) (h1:i≤y):(Instr.sliceBound (.int ki i) y code).run P w = .ok i.toNat w:=by
 simp [Instr.sliceBound,asIntOf,h0,h1]
theorem slice_box [T:TyTab P] {dst:Option Tmp} {t:TypeId} {x:Operand} {lo hi:Option Operand} {type:TypeId} {pos:String} {after:Array Edge} {guard:Option (Nat × Bool)} {j off N:Nat} {e:TypeId} {r r':TyRow} (l h:Nat)
  (hx:ev F x=some (.ptr j off)) (hlo:optI F 0 lo l) (hhi:optI F N hi h) (ht:tfind T.tab t=some r') (hd:r'.d = .array N e) (he:tfind T.tab e=some r) (h1:l≤h) (h2:h≤N) (h3:l < N) :
  DSem P .p ⟨dst,.slice t x lo hi none,type,pos,after,guard⟩ F H (.bs j (off+l*r.size) (h-l) (N-l)) H:=by
 refine ⟨rfl,fun H'=>?_⟩
 intro ext w β ρ hI hext hκ hρ
 obtain ⟨ent,b,e1,e2,e3,hu⟩:=hρ x (by simp [Op.operands]) _ hx
 have hmem:∀ (q:Option Operand),(q=lo∨q=hi)→∀ y,q=some y→∀ v,ev F y=some v→Rel (ctx ext w β) v (ρ y):=fun q hq y hy v hv=>by
  refine hρ y ?_ v hv
  subst hy
  rcases hq with h|h<;>simp [Op.operands,←h]
 have hl:=optI_lo hlo (hmem lo (.inl rfl))
 have hh:=optI_lo hhi (hmem hi (.inr rfl))
 have c1:(l:Int)≤h:=by omega
 have c2:(h:Int)≤N:=by omega
 have hb:(Instr.sliceBounds false N N (lo.map ρ) (hi.map ρ) none).run P w = .ok (l,h,N) w:=by
  have d1:(Instr.sliceBound (.int .i64 l) h .sliceB).run P w = .ok l w:=run_sliceBound (by omega) c1
  rcases hh with ⟨b1,b2,_⟩|⟨k2,b1⟩
  ·obtain rfl:h=N:=by omega
   rcases hl with ⟨a1,a2,_⟩|⟨k1,a1⟩
   ·obtain rfl:l=0:=by omega
    rw [a1,b1];simp [Instr.sliceBounds]
   ·have d1:(Instr.sliceBound (.int k1 l) h .sliceB).run P w = .ok l w:=run_sliceBound (by omega) c1
    rw [a1,b1];simp [Instr.sliceBounds,d1]
  ·have d2:(Instr.sliceBound (.int k2 h) N .sliceAlen).run P w = .ok h w:=run_sliceBound (by omega) c2
   rcases hl with ⟨a1,a2,_⟩|⟨k1,a1⟩
   ·obtain rfl:l=0:=by omega
    rw [a1,b1];simp [Instr.sliceBounds,d2]
   ·have d1:(Instr.sliceBound (.int k1 l) h .sliceB).run P w = .ok l w:=run_sliceBound (by omega) c1
    rw [a1,b1];simp [Instr.sliceBounds,d1,d2]
 have h4:(execOp ρ ⟨dst,.slice t x lo hi none,type,pos,after,guard⟩).run P w = .ok (.value (.slice (some ⟨b,off+l*r.size,none⟩) (h-l) (N-l))) w:=by
  have hne:¬N=l:=by omega
  simp only [execOp,Instr.sliceAt,Instr.sureAddr,Sem.run_bind,hu,run_und ht,hd,Result.andThen_ok,Option.map_none,hb,run_size he,Sem.run_pure,if_neg hne,addr_add]
 rw [h4]
 exact came_same hI ⟨ent,b,e1,e2,e3,rfl⟩
theorem index_bs [T:TyTab P] {dst:Option Tmp} {t:TypeId} {x i:Operand} {type:TypeId} {pos:String} {after:Array Edge} {guard:Option (Nat × Bool)} {j off len cap:Nat} {ki:IntKind} {n:Int} {e:TypeId} {r r':TyRow}
  (hx:ev F x=some (.bs j off len cap)) (hi:ev F i=some (.v (.int ki n))) (ht:tfind T.tab t=some r') (hd:r'.d = .slice e) (he:tfind T.tab e=some r) (h0:0≤n) (hn:n < len) :
  DSem P .p ⟨dst,.indexAddr t x i,type,pos,after,guard⟩ F H (.ptr j (off+n.toNat*r.size)) H:=by
 refine ⟨rfl,fun H'=>?_⟩
 intro ext w β ρ hI hext hκ hρ
 obtain ⟨ent,b,e1,e2,e3,hu⟩:=hρ x (by simp [Op.operands]) _ hx
 have hi':ρ i = .int ki n:=hρ i (by simp [Op.operands]) _ hi
 have h4:(execOp ρ ⟨dst,.indexAddr t x i,type,pos,after,guard⟩).run P w = .ok (.value (.pointer (some ⟨b,off+n.toNat*r.size,none⟩))) w:=by
  simp only [execOp,Instr.indexAt,asIntOf,Sem.run_bind,hu,hi',run_und ht,hd,Result.andThen_ok,Sem.run_pure,run_size he,addr_add]
  rw [if_pos ⟨h0,hn⟩]
  simp [run_size he,addr_add]
 rw [h4]
 exact came_same hI ⟨ent,b,e1,e2,e3,rfl⟩
theorem len_bs [T:TyTab P] {dst:Option Tmp} {t:TypeId} {x:Operand} {type:TypeId} {pos:String} {after:Array Edge} {guard:Option (Nat × Bool)} {j off len cap:Nat} {e:TypeId} {r:TyRow}
  (hx:ev F x=some (.bs j off len cap)) (ht:tfind T.tab t=some r) (hd:r.d = .slice e) :
  DSem P .p ⟨dst,.call { callee:=.builtin .len,args:=#[x],argTypes:=#[t] },type,pos,after,guard⟩ F H (.v (.int .i64 len)) H:=by
 refine ⟨rfl,fun H'=>?_⟩
 intro ext w β ρ hI hext hκ hρ
 obtain ⟨ent,b,e1,e2,e3,hu⟩:=hρ x (by simp [Op.operands,Call.operands]) _ hx
 have hu':P.underlying t=some (.slice e):=by rw [ty_und ht,hd]
 have h4:(execOp ρ ⟨dst,.call { callee:=.builtin .len,args:=#[x],argTypes:=#[t] },type,pos,after,guard⟩).run P w = .ok (.value (.int .i64 len)) w:=by
  simp only [execOp,resolve,invoke,builtin,Sem.run_bind,Sem.run_pure,Result.andThen_ok,List.map_toArray,List.map_cons,List.map_nil,hu]
  simp [Builtin.len_,run_underlying hu',Builtin.lenOf,goInt]
 rw [h4]
 exact came_same hI rfl
end
theorem append_encs {P:Program} [T:TyTab P] {F:Fr} {H H':List AObj} {dst:Option Tmp} {t tx:TypeId} {x y:Operand} {type:TypeId} {pos:String} {after:Array Edge} {guard:Option (Nat × Bool)} {j g:Nat} {α:Type} {enc:α→AVal} {l l2:List α} {b:AVal} {e ex:TypeId} {r r' rx:TyRow}
  (hx:ev F x=some (.arr j g)) (hj:H[j]? = some (.arr g e r.size (l.map enc))) (hy:ev F y=some b) (hb:xsOf b=some (l2.map enc)) (ht:tfind T.tab t=some r') (hd:r'.d = .slice e) (he:tfind T.tab e=some r) (htx:tfind T.tab tx=some rx) (hdx:rx.d = .slice ex)
  (ho:∀ x,(enc x).cells.length=r.size∧(enc x).flat=true) (hz:zerosOk r=true) (hl:l.length+l2.length≤1000000) (hbt:Nat.ble r.bytes 100000000=true) (hH:hsetO H j (.arr (g+1) e r.size ((l++l2).map enc))=some H') :
  DSem P .x ⟨dst,.call { callee:=.builtin .append,args:=#[x,y],argTypes:=#[t,tx] },type,pos,after,guard⟩ F H (.arr j (g+1)) H':=by
 have hbt:=Nat.le_of_ble_eq_true hbt
 have h1:(l.length+l2.length)*r.bytes≤1000000*100000000:=Nat.mul_le_mul hl hbt
 have:=append_own (P:=P) (dst:=dst) (type:=type) (pos:=pos) (after:=after) (guard:=guard) hx hj hy (.sl hb) ht hd he htx hdx (elems_map l ho) (elems_map l2 ho) hz (by simp;omega) (by simp;omega)
 rw [hsetO_eq hH,List.map_append]
 exact this
def Meet (ts:List Nat) (vs:List AVal) (H2:List AObj) (F':Fr) (H':List AObj):Prop:=fproj F' ts=some vs∧H'=H2
theorem jmid {P:Program} {G:Gh} {Q:APost} {F:Fr} {H:List AObj} {x z:Code} {k:Kt} (ts:List Nat) (vs:List AVal) (H2:List AObj) (h1:J P G Q (.c x (.lp (Meet ts vs H2) (.seq z k))) F H) (h2:J P G Q (.c z k) (ts.zip vs) H2):J P G Q (.c x (.seq z k)) F H:=by
 refine AW.mono h1 fun e F' H' h=>?_
 cases e with
 | normal=>obtain ⟨h3,rfl⟩:=h;exact aw_cut ts h3 h2
 | _=>exact h
theorem jmeet {P:Program} {G:Gh} {Q:APost} {F:Fr} {H:List AObj} {k:Kt} {ts:List Nat} {vs:List AVal} {H2:List AObj} (h:fproj F ts=some vs) (hH:H=H2):J P G Q (.e .normal (.lp (Meet ts vs H2) k)) F H:=⟨h,hH⟩
def wk1:AVal→AVal
 | .slf xs=>.sl xs
 | .slz xs=>.sl xs
 | .v x=>.v x
 | .agg cs=>.agg cs
 | .tup cs=>.tup cs
 | .sl xs=>.sl xs
 | .arr j g=>.arr j g
 | .ptr j off=>.ptr j off
 | .pp cs off=>.pp cs off
 | .ep j g k off=>.ep j g k off
 | .hd j g off len=>.hd j g off len
 | .bs j off len cap=>.bs j off len cap
 | .fn f a b=>.fn f a b
 | .mp j=>.mp j
 | .ifc t x=>.ifc t x
theorem wk1_rel {c:Ctx} {a:AVal} {u:Value} (h:Rel c a u):Rel c (wk1 a) u:=by
 cases a with
 | slf xs=>exact sl_weak h
 | slz xs=>exact slz_weak h
 | _=>exact h
theorem wkL_rel {c:Ctx}:∀ {asL:List AVal} {us:List Value},RelL c asL us→RelL c (asL.map wk1) us
 | [],us,h=>h
 | a::asL,us,⟨u,us',e,r,rs⟩=>⟨u,us',e,wk1_rel r,wkL_rel rs⟩
theorem ACalls.wk {P:Program} {f:FuncId} {args:List AVal} {H:List AObj} {Q:Eff} (h:ACalls P f (args.map wk1) H Q):ACalls P f args H Q :=
 ⟨h.enters,fun ext w β us hI hx hr=>h.calls ext w β us hI hx (wkL_rel hr)⟩
theorem jw {P:Program} {G:Gh} {Q:APost} {F F':Fr} {H:List AObj} {f:FuncId} {args args':List AVal} {v:AVal} (hc:ACalls P f args [] (one v [])) {s s':Pt} {ops:Array Oper} {dst:Option Tmp} {o:Op} {type:TypeId} {pos:String} {after:Array Edge} {guard:Option (Nat × Bool)} {kk:Option K}
  (h:nextO s=some (ops,⟨dst,o,type,pos,after,guard⟩,kk,s')) (ho:callO F o=some (f,args')) (ha:args'.map wk1=args) (hg:guardA ops F ⟨dst,o,type,pos,after,guard⟩=some true) (hl:(ltL 0 args'&&ltV 0 v)=true) (hp:putA G.n dst v F=some F')
  (next:J P G Q s' F' H):J P G Q s F H:=by
 subst ha
 exact jv hc.wk h ho hg hl hp next
section
variable {P:Program} [T:TyTab P] {F:Fr} {H:List AObj} {dst:Option Tmp} {t yt:TypeId} {x y:Operand} {type:TypeId} {pos:String} {after:Array Edge} {guard:Option (Nat × Bool)} {a b:BitVec 64}
end
end Go.AL
end
section
namespace Go.AL
open Go Go.Deep
section
variable {P:Program} [T:TyTab P] {H:Type} {enc:TypeId × Value→H} {w:World} {base:Nat} {sp:Nat→Bool} {hd:Bool}
theorem ty_cells {t:Nat} {r:TyRow} (h:tfind T.tab t=some r):P.cellsOf t=r.size:=by
 obtain ⟨i,h1,h2,h3,h4⟩:=ty_info h
 simp [Program.cellsOf,h1,h3]
theorem trod_ints {st:TypeId→Bool}:∀ (n:Nat) (t:TypeId) (r:TyRow) (fuel:Nat) (cs:List Value) (x:DataW H × List MemPlace),allInt T.tab st n t=true→tfind T.tab t=some r →
  DataW.trod enc P w base sp hd fuel t cs=some x→∃ ns:List Int,cs=intsV ns∧ns.length=r.size
 | 0,t,r,fuel,cs,x,h,_,_=>by cases h
 | n+1,t,r,fuel,cs,x,h,ht,hx=>by
  simp only [allInt,ht] at h
  have hu:=ty_und ht
  split at h
  ·rename_i hk
   rw [hk] at hu
   have h1:=Nat.eq_of_beq_eq_true h
   obtain ⟨z,rfl,_,_⟩:=DataW.trod_int hu hx
   exact ⟨[z],rfl,by simp [h1]⟩
  ·rename_i fs hk
   rw [hk] at hu
   simp only [Bool.and_eq_true] at h
   obtain ⟨xs,m,rfl,rfl,hlen,hxl,hfs⟩:=DataW.trod_struct hu hx
   rw [ty_cells ht] at hlen
   have key:∀ (gs:List Field) (off:Nat),(∀ f∈gs,∃ y,DataW.trod enc P w base sp hd m f.type ((cs.drop f.offset).take (P.cellsOf f.type))=some y)→fieldsRun T.tab (allInt T.tab st n) r.size off gs=true→∃ ns:List Int,cs.drop off=intsV ns:=by
    intro gs
    induction gs with
    | nil =>
     intro off _ hg
     have:=Nat.eq_of_beq_eq_true hg
     exact ⟨[],List.drop_of_length_le (by omega)⟩
    | cons f gs ih =>
     intro off hy hg
     simp only [fieldsRun,Bool.and_eq_true] at hg
     obtain ⟨⟨⟨g1,g2⟩,g3⟩,g4⟩:=hg
     have g1:=Nat.eq_of_beq_eq_true g1
     cases hr:tfind T.tab f.type with
     | none=>rw [hr] at g4;cases g4
     | some r' =>
      rw [hr] at g4
      obtain ⟨y,hy1⟩:=hy f (List.mem_cons_self ..)
      obtain ⟨a,ha,hal⟩:=trod_ints n f.type r' m _ y g3 hr hy1
      obtain ⟨b,hb⟩:=ih (off+r'.size) (fun f hf=>hy f (List.mem_cons_of_mem _ hf)) g4
      refine ⟨a++b,?_⟩
      rw [←List.take_append_drop r'.size (cs.drop off),List.drop_drop,hb]
      rw [g1,ty_cells hr] at ha
      rw [ha]
      simp [intsV]
   obtain ⟨ns,hns⟩:=key fs.toList 0 (fun f hf=>by
    obtain ⟨i,hi,rfl⟩:=List.getElem_of_mem hf
    have h1:=hfs i fs.toList[i] (by rw [←Array.getElem?_toList];exact List.getElem?_eq_getElem hi)
    rw [List.getElem?_eq_getElem (by rw [hxl];simpa using hi)] at h1
    exact ⟨_,h1⟩) h.2
   rw [List.drop_zero] at hns
   refine ⟨ns,hns,?_⟩
   rw [←hlen,hns];simp [intsV]
  ·cases h
abbrev out (w:World):Ctx:=⟨w,[],fun _=>False⟩
def rowA (ag:Bool) (ns:List Int):AVal:=cond ag (.agg (intsA ns)) (.v (.int .i64 (ns.headD 0)))
theorem relL_ints (c:Ctx):∀ ns:List Int,RelL c (intsA ns) (intsV ns)
 | []=>rfl
 | n::ns=>⟨_,_,rfl,rfl,relL_ints c ns⟩
theorem addr_spot {a:Addr} {w:World} {v:Value} (h:w.cell? a=some v):a.spot=none:=by
 cases hs:a.spot with
 | none=>rfl
 | some s =>
  exfalso
  unfold World.cell? at h
  rw [hs] at h
  split at h<;>simp at h
theorem open_rows {st:TypeId→Bool} {n:Nat} {t e:TypeId} {r r':TyRow} {fuel:Nat} {u:Value} {x:DataW H × List MemPlace} (ht:tfind T.tab t=some r') (hd':r'.d = .slice e) (he:tfind T.tab e=some r) (hi:allInt T.tab st n e=true)
  (hz:r.size≠0) (h1:aggB r.d=false→r.size=1) (h:DataW.trod enc P w 0 sp hd fuel t [u]=some x) :
  ∃ nss:List (List Int),(∀ ns∈nss,ns.length=r.size)∧nss.length≤maxLen∧Rel (out w) (.sl (nss.map (rowA (aggB r.d)))) u:=by
 have hu:P.underlying t=some (.slice e):=by rw [ty_und ht,hd']
 rcases open_slice hu h with ⟨h0,_⟩|⟨a,len,cap,m,k,D,Pl,hcs,_,hl,hm,hmm,_,hx⟩
 ·injection h0 with h0
  subst h0
  exact ⟨[],by simp,by simp,none,0,0,rfl,Nat.le_refl _,fun h=>absurd rfl h,trivial⟩
 ·injection hcs with hcs
  subst hcs
  rw [ty_cells he] at hx
  have hlm:len≤m:=by rw [hmm];split<;>omega
  have each:∀ i,i < len→∃ ns:List Int,ns.length=r.size∧w.cells? 0 (a.add (i*r.size)) r.size=some (intsV ns):=fun i hi'=>by
   obtain ⟨cs',g1,g2⟩:=hx i (by omega)
   obtain ⟨ns,rfl,hn⟩:=trod_ints n e r k cs' _ hi he g2
   exact ⟨ns,hn,g1⟩
  obtain ⟨N,hN⟩:=choose_lt (α:=List Int) (p:=fun i ns=>ns.length=r.size∧w.cells? 0 (a.add (i*r.size)) r.size=some (intsV ns)) each
  have hlen:((List.range len).map N).length=len:=by simp
  refine ⟨(List.range len).map N,fun ns hns=>?_,by rw [hlen];omega,some a,cap,r.size,by simp,by simpa using hl,fun hne=>?_,?_⟩
  ·obtain ⟨i,hi',rfl⟩:=List.mem_map.1 hns
   exact (hN i (List.mem_range.1 hi')).1
  ·have hpos:0 < len:=by
    rcases Nat.eq_zero_or_pos len with h0|h0
    ·subst h0;simp at hne
    ·exact h0
   obtain ⟨g1,g2⟩:=hN 0 hpos
   obtain ⟨_,_,g3⟩:=World.cells?_some g2
   have g4:=g3 0 (by omega)
   rw [List.getElem?_eq_getElem (by simp [intsV,g1];omega)] at g4
   have hs:a.spot=none:=by
    have:(a.add (0*r.size)).add 0=a:=by simp [Addr.add]
    rw [this] at g4;exact addr_spot g4
   refine ⟨a.block,a.off,by cases a;simp_all,id,?_⟩
   have g5:w.cell? a=some (intsV (N 0))[0]:=by
    have:(a.add (0*r.size)).add 0=a:=by simp [Addr.add]
    rwa [this] at g4
   unfold World.cell? at g5
   rw [hs] at g5
   simp at g5
   by_cases hlt:a.block < w.heap.size
   ·exact hlt
   ·rw [Array.getElem?_eq_none (by omega)] at g5;cases g5
  ·refine RelR.of_get fun i y hy=>?_
   have hi':i < len:=by simpa using (List.getElem?_eq_some_iff.1 hy).1
   simp only [List.getElem?_map,List.getElem?_range hi',Option.map_some,Option.some.injEq] at hy
   subst hy
   obtain ⟨g1,g2⟩:=hN i hi'
   obtain ⟨_,_,g3⟩:=World.cells?_some g2
   have hs:a.spot=none:=by
    obtain ⟨p1,p2⟩:=hN 0 (by omega)
    obtain ⟨_,_,p3⟩:=World.cells?_some p2
    have p4:=p3 0 (by omega)
    rw [List.getElem?_eq_getElem (by simp [intsV,p1];omega)] at p4
    have:(a.add (0*r.size)).add 0=a:=by simp [Addr.add]
    rw [this] at p4;exact addr_spot p4
   have hadd:∀ j,a.add j=⟨a.block,a.off+j,none⟩:=fun j=>by
    unfold Addr.add;split
    ·rename_i hj;subst hj;cases a;simp_all
    ·rfl
   have hrd:∀ q,q < r.size→rdA w (some a) (i*r.size+q)=(intsV (N i))[q]?:=fun q hq=>by
    have:=g3 q hq
    rw [add_add,hadd] at this
    exact this
   cases ha:aggB r.d with
   | true =>
    refine ⟨.agg (intsV (N i)).toArray,⟨_,rfl,relL_ints _ _⟩,by simp [Value.cells,intsV,g1],fun q hq=>?_⟩
    simp only [Nat.zero_add]
    rw [hrd q hq];simp [Value.cells]
   | false =>
    have hs1:=h1 ha
    obtain ⟨z,hz'⟩:=List.length_eq_one_iff.1 (by rw [g1,hs1]:(N i).length=1)
    refine ⟨.int .i64 z,by rw [hz'];rfl,by rw [hs1];rfl,fun q hq=>?_⟩
    simp only [Nat.zero_add]
    rw [hrd q hq,hz']
    have:q=0:=by omega
    subst this;rfl
end
end Go.AL
namespace Go.AL
open Go Go.ChangeShapes Go.RowKit
section
variable {P:Program}
end
end Go.AL
namespace Go.AL
open Go Go.ChangeShapes Go.RowKit
section
variable {H:Type} {enc:TypeId × Value→H} {P:Program}
theorem trodAll_carry' {w w':World} {base:Nat} {sp:Nat→Bool} {hd:Bool}:∀ {ts:List TypeId} {vs:List Value} {ds:List (DataW H)} {ps:List MemPlace},DataW.TrodAll enc P w base sp hd ts vs ds ps→(∀ p∈ps,w.sameAt w' p)→DataW.TrodAll enc P w' base sp hd ts vs ds ps
 | [],[],[],_,h,_=>h
 | _::_,_::_,_::_,_,⟨p,q,⟨n,h1⟩,h2,e⟩,hs=>⟨p,q,⟨n,DataW.trod_carry n _ _ _ h1 fun x hx=>hs x (by rw [e];exact List.mem_append_left _ hx)⟩,trodAll_carry' h2 fun x hx=>hs x (by rw [e];exact List.mem_append_right _ hx),e⟩
theorem post_law {T':TypeId→Prop} (K:Kids P T') (hz:∀ t e,T' t→P.underlying t=some (.slice e)→0 < P.cellsOf e) {f:Func} {s:ChangeSpec} {apart fresh handsOn again:Bool} {W W':World} {args:Array Value} {ds gs:List (DataW H)} {before:List MemPlace} {tb:TypeId}
  (hT:∀ t∈f.params.toList,T' t) (hW:DataW.Whole enc P f.params.toList s.vars apart W args.toList ds gs before) (hB:Below W.heap.size W W') (hvars:s.vars=[])
  (hr:(s.fn H (ds++gs)).results=[.lit (.bool true)]) (ha:(s.fn H (ds++gs)).args=ds) (hv:(s.fn H (ds++gs)).vars=[]) (hrt:f.resultTypes = #[tb]) (htb:P.underlying tb=some .bool) :
  s.post enc P f apart fresh handsOn again W args (.bool true) W':=by
 have hlt:=hW.lt
 have hold:∀ p∈before,(fun b=>decide (b < W.heap.size)) p.block=true:=fun p hp=>by simpa using hlt p hp
 obtain ⟨p,q,h1,h2,h3,h4,h5⟩:=id hW
 have hq:q=[]:=by
  rw [hvars] at h2
  cases gs with
  | nil=>exact h2
  | cons=>cases h2
 subst hq
 rw [List.append_nil] at h3
 subst h3
 have hres:∀ (b:Nat) (sp:Nat→Bool) (hd:Bool),DataW.TrodAll enc P W' b sp hd f.resultTypes.toList ((Value.bool true).resultList f.resultTypes.size) (s.fn H (ds++gs)).results []:=fun b sp hd=>by
  rw [hr,hrt]
  exact trodAll_mk1 ⟨1,by simp [Value.cells,DataW.trod,htb]⟩
 have hargs:∀ sp:Nat→Bool,(∀ x∈before,sp x.block=true)→DataW.TrodAll enc P W' 0 sp true f.params.toList args.toList (s.fn H (ds++gs)).args before:=fun sp hsp=>by
  rw [ha]
  exact trodAll_carry' (h1.respare K hz hT hsp) fun x hx=>hB.same (hlt x hx)
 have hv':∀ sp:Nat→Bool,DataW.TrodVars enc P W' sp s.vars (s.fn H (ds++gs)).vars []:=fun sp=>by
  rw [hvars,hv];exact rfl
 refine ⟨ds,gs,before,[],before,[],hW,hres _ _ _,hargs _ hold,hv' _,World.keptBut_mono (fun p hp=>⟨hp,Or.inr (by simpa using hp)⟩) (hB.frame (· ∈ before)),fun _=>?_⟩
 refine ⟨?_,_,_,([]++before)++[],⟨[]++before,[],trodAll_append (hargs _ (fun _ _=>rfl)) (hres _ _ _),hv' _,rfl,?_,?_⟩,?_⟩
 ·intro j t r hj hr'
  rw [hrt] at hj hr'
  cases j with
  | zero =>
   simp at hj;subst hj
   simp [Value.resultList] at hr';subst hr'
   simp [Value.okWide,htb,Cell.okWide,Cell.ok]
  | succ j=>simp at hj
 ·intro b off hp
  have hp:MemPlace.cell b off∈before:=by simpa using hp
  rw [hB.frozen (hlt _ hp)]
  exact h4 b off (by simpa using hp)
 ·intro hap
  have:=h5 hap
  simpa using this
 ·intro p hp _
  simpa using hp
end
end Go.AL
end
