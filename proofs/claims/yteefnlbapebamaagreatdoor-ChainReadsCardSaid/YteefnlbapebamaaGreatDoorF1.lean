/-
  Part 1 of the proof texts: the program logic over the model, then the contracts of the functions that the laws reach. No conditions.
-/
import Derived.Laws.AppendOwn
import Derived.Orders
import Derived.Below
import Derived.Deep.LoopGhost
import Derived.Sort.LoopGhostIn
import Derived.RangeFuncLeaves
import Derived.RangeFuncRecord
import Derived.OrdersIn
import Derived.Laws.StructEq
import Derived.Deep.AppendSrc
import Derived.Laws.MakeOwn
import Derived.Laws.CopyRow
set_option linter.unusedVariables false
set_option linter.unusedSimpArgs false
section
namespace Go.AL
open Go
inductive AVal where
 | v (x:Value)
 | agg (cs:List AVal)
 | tup (cs:List AVal)
 | sl (xs:List AVal)
 | slf (xs:List AVal)
 | slz (xs:List AVal)
 | arr (j g:Nat)
 | ptr (j off:Nat)
 | pp (cs:List AVal) (off:Nat)
 | ep (j g k off:Nat)
 | hd (j g off len:Nat)
 | bs (j off len cap:Nat)
 | fn (f:Fn) (first captured:List AVal)
 | mp (j:Nat)
 | ifc (t:TypeId) (x:AVal)
def AVal.cells:AVal→List AVal
 | .agg cs=>cs
 | x=>[x]
structure Ent where
 blk:Option Nat
 gen:Nat
 es:Nat:=1
 cap:Nat:=0
 len:Nat:=0
structure Ctx where
 w:World
 β:List Ent
 bad:Nat→Prop
def rdA (w:World) (A:Option Addr) (i:Nat):Option Value :=
 match A with
 | some a=>w.cell? ⟨a.block,a.off+i,none⟩
 | none=>none
def baseOk (c:Ctx) (A:Option Addr):Prop:=∃ b o,A=some ⟨b,o,none⟩∧¬c.bad b∧b < c.w.heap.size
mutual
def Rel (c:Ctx):AVal→Value→Prop
 | .v x,u=>u=x
 | .agg cs,u=>∃ a,u = .agg a∧RelL c cs a.toList
 | .tup cs,u=>∃ a,u = .tuple a∧RelL c cs a.toList
 | .sl xs,u=>∃ A m es,u = .slice A xs.length m∧xs.length≤m∧(xs≠[]→baseOk c A)∧RelR { c with β:=[] } es (rdA c.w A) 0 xs
 | .slz xs,u=>∃ A m es,u = .slice A xs.length m∧xs.length≤m∧(xs≠[]→baseOk c A)∧RelR { c with β:=[] } es (rdA c.w A) 0 xs∧(xs=[]→m=0)
 | .slf xs,u=>∃ A es,u = .slice A xs.length xs.length∧(xs≠[]→baseOk c A)∧RelR { c with β:=[] } es (rdA c.w A) 0 xs
 | .arr j g,u=>u.oneCell'=true∧∃ e,c.β[j]? = some e∧g≤e.gen∧(e.gen=g→e.len≤e.cap ∧
   match e.blk with
   | none=>e.len=0∧∃ A,u = .slice A 0 0
   | some b=>u = .slice (some ⟨b,0,none⟩) e.len e.cap)
 | .ptr j off,u=>∃ e b,c.β[j]? = some e∧e.gen=0∧e.blk=some b∧u = .pointer (some ⟨b,off,none⟩)
 | .pp cs off,u=>∃ b o us,u = .pointer (some ⟨b,o+off,none⟩)∧¬c.bad b∧b < c.w.heap.size∧RelL { c with β:=[] } cs us ∧
   ∀ i,i < us.length→c.w.cell? ⟨b,o+i,none⟩=us[i]?
 | .ep j g k off,u=>u.oneCell'=true∧∃ e,c.β[j]? = some e∧g≤e.gen∧(e.gen=g→∃ b,e.blk=some b∧u = .pointer (some ⟨b,k*e.es+off,none⟩))
 | .hd j g off len,u=>u.oneCell'=true∧∃ e,c.β[j]? = some e∧g≤e.gen∧(e.gen=g→∃ b o m,e.blk=some b∧off+len≤e.cap∧u = .slice (some ⟨b,o,none⟩) len m ∧
   (len≠0∨off=0→o=off*e.es∧m=e.cap-off))
 | .bs j off len cap,u=>∃ e b,c.β[j]? = some e∧e.gen=0∧e.blk=some b∧u = .slice (some ⟨b,off,none⟩) len cap
 | .fn f first captured,u=>∃ a1 a2,u = .func f a1 a2∧RelL c first a1.toList∧RelL c captured a2.toList
 | .mp j,u=>∃ e b,c.β[j]? = some e∧e.gen=0∧e.blk=some b∧u = .map (some b)
 | .ifc t x,u=>∃ y,u = .iface t y∧Rel c x y
def RelL (c:Ctx):List AVal→List Value→Prop
 | [],us=>us=[]
 | x::xs,us=>∃ u us',us=u::us'∧Rel c x u∧RelL c xs us'
def RelR (c:Ctx) (es:Nat) (rd:Nat→Option Value):Nat→List AVal→Prop
 | _,[]=>True
 | k,x::xs=>(∃ u,Rel c x u∧u.cells.size=es∧∀ i,i < es→rd (k*es+i)=u.cells[i]?)∧RelR c es rd (k+1) xs
end
def HeapEq (w w':World) (b:Nat):Prop:=w'.heap[b]? = w.heap[b]?∨∃ d d',w.heap[b]? = some (.deferred d)∧w'.heap[b]? = some (.deferred d')
structure Ctx.le (c c':Ctx):Prop where
 old:∀ b,b < c.w.heap.size→¬c.bad b→b < c'.w.heap.size∧¬c'.bad b∧HeapEq c.w c'.w b
 ents:∀ (j:Nat) (e:Ent),c.β[j]? = some e→∃ e',c'.β[j]? = some e'∧e.gen≤e'.gen∧(e'.gen=e.gen→e'=e)∧(e.gen=0→e'=e)
theorem Ctx.le.bare {c c':Ctx} (h:c.le c'):Ctx.le { c with β:=[] } { c' with β:=[] }:=⟨h.old,fun (j:Nat) (e:Ent) he=>by simp at he⟩
theorem cell_of_block {w w':World} {b:Nat} (h:w'.heap[b]? = w.heap[b]?) (o:Nat):w'.cell? ⟨b,o,none⟩=w.cell? ⟨b,o,none⟩:=by
 simp only [World.cell?,h]
theorem cell_of_eq {w w':World} {b:Nat} (h:HeapEq w w' b) (o:Nat):w'.cell? ⟨b,o,none⟩=w.cell? ⟨b,o,none⟩:=by
 rcases h with h|⟨d,d',h1,h2⟩
 ·exact cell_of_block h o
 ·simp only [World.cell?,h1,h2]
theorem baseOk.le {c c':Ctx} (h:c.le c') {A:Option Addr} (hA:baseOk c A):baseOk c' A:=by
 obtain ⟨b,o,rfl,hb,hs⟩:=hA
 obtain ⟨h1,h2,_⟩:=h.old b hs hb
 exact ⟨b,o,rfl,h2,h1⟩
theorem rdA_le {c c':Ctx} (h:c.le c') {A:Option Addr} (hA:baseOk c A):rdA c'.w A=rdA c.w A:=by
 obtain ⟨b,o,rfl,hb,hs⟩:=hA
 obtain ⟨_,_,h3⟩:=h.old b hs hb
 funext i
 exact cell_of_eq h3 _
mutual
theorem Rel.le {c c':Ctx} (h:c.le c'):∀ (a:AVal) (u:Value),Rel c a u→Rel c' a u
 | .v x,u,r=>r
 | .agg cs,u,⟨a,e,r⟩=>⟨a,e,RelL.le h cs _ r⟩
 | .tup cs,u,⟨a,e,r⟩=>⟨a,e,RelL.le h cs _ r⟩
 | .sl xs,u,⟨A,m,es,e,hm,hA,r⟩=>⟨A,m,es,e,hm,fun hx=>(hA hx).le h,by
   by_cases hx:xs=[]
   ·subst hx;trivial
   ·rw [rdA_le h (hA hx)];exact RelR.le h.bare xs es _ 0 r⟩
 | .slz xs,u,⟨A,m,es,e,hm,hA,r,hz⟩=>⟨A,m,es,e,hm,fun hx=>(hA hx).le h,(by
   by_cases hx:xs=[]
   ·subst hx;trivial
   ·rw [rdA_le h (hA hx)];exact RelR.le h.bare xs es _ 0 r),hz⟩
 | .slf xs,u,⟨A,es,e,hA,r⟩=>⟨A,es,e,fun hx=>(hA hx).le h,by
   by_cases hx:xs=[]
   ·subst hx;trivial
   ·rw [rdA_le h (hA hx)];exact RelR.le h.bare xs es _ 0 r⟩
 | .arr j g,u,⟨h1,e,he,hg,hu⟩=>by
   obtain ⟨e',he',hle,heq,_⟩:=h.ents j e he
   refine ⟨h1,e',he',Nat.le_trans hg hle,fun hg'=>?_⟩
   have:e'.gen=e.gen:=by omega
   obtain rfl:=heq this
   exact hu hg'
 | .ptr j off,u,⟨e,b,he,h0,hu⟩=>by
   obtain ⟨e',he',_,_,heq⟩:=h.ents j e he
   obtain rfl:=heq h0
   exact ⟨e',b,he',h0,hu⟩
 | .pp cs off,u,⟨b,o,us,e,hb,hs,r,hc⟩=>by
   obtain ⟨h1,h2,h3⟩:=h.old b hs hb
   exact ⟨b,o,us,e,h2,h1,RelL.le h.bare cs us r,fun i hi=>(cell_of_eq h3 _).trans (hc i hi)⟩
 | .ep j g k off,u,⟨h1,e,he,hg,hu⟩=>by
   obtain ⟨e',he',hle,heq,_⟩:=h.ents j e he
   refine ⟨h1,e',he',Nat.le_trans hg hle,fun hg'=>?_⟩
   have:e'.gen=e.gen:=by omega
   obtain rfl:=heq this
   exact hu hg'
 | .hd j g off len,u,⟨h1,e,he,hg,hu⟩=>by
   obtain ⟨e',he',hle,heq,_⟩:=h.ents j e he
   refine ⟨h1,e',he',Nat.le_trans hg hle,fun hg'=>?_⟩
   have:e'.gen=e.gen:=by omega
   obtain rfl:=heq this
   exact hu hg'
 | .bs j off len cap,u,⟨e,b,he,h0,hu⟩=>by
   obtain ⟨e',he',_,_,heq⟩:=h.ents j e he
   obtain rfl:=heq h0
   exact ⟨e',b,he',h0,hu⟩
 | .fn f fs cs,u,⟨a1,a2,e,r1,r2⟩=>⟨a1,a2,e,RelL.le h fs _ r1,RelL.le h cs _ r2⟩
 | .mp j,u,⟨e,b,he,h0,hu⟩=>by
   obtain ⟨e',he',_,_,heq⟩:=h.ents j e he
   obtain rfl:=heq h0
   exact ⟨e',b,he',h0,hu⟩
 | .ifc t x,u,⟨y,e,r⟩=>⟨y,e,Rel.le h x y r⟩
theorem RelL.le {c c':Ctx} (h:c.le c'):∀ (asL:List AVal) (us:List Value),RelL c asL us→RelL c' asL us
 | [],us,r=>r
 | x::xs,us,⟨u,us',e,r,rs⟩=>⟨u,us',e,Rel.le h x u r,RelL.le h xs us' rs⟩
theorem RelR.le {c c':Ctx} (h:c.le c'):∀ (asL:List AVal) (es:Nat) (rd:Nat→Option Value) (k:Nat),RelR c es rd k asL→RelR c' es rd k asL
 | [],_,_,_,_=>trivial
 | x::xs,es,rd,k,⟨⟨u,r,hs,hrd⟩,rs⟩=>⟨⟨u,Rel.le h x u r,hs,hrd⟩,RelR.le h xs es rd (k+1) rs⟩
end
theorem RelL.length {c:Ctx}:∀ {asL:List AVal} {us:List Value},RelL c asL us→us.length=asL.length
 | [],us,h=>by cases h;rfl
 | x::xs,us,⟨u,us',e,_,rs⟩=>by subst e;simp [RelL.length rs]
theorem RelL.get {c:Ctx}:∀ {asL:List AVal} {us:List Value},RelL c asL us→∀ {i:Nat} {a:AVal},asL[i]? = some a→∃ u,us[i]? = some u∧Rel c a u
 | [],us,_,i,a,ha=>by simp at ha
 | x::xs,us,⟨u,us',e,r,rs⟩,i,a,ha=>by
  subst e
  cases i with
  | zero=>simp at ha;subst ha;exact ⟨u,rfl,r⟩
  | succ i=>simp at ha;simpa using RelL.get rs ha
theorem RelL.append {c:Ctx}:∀ {asL bs:List AVal} {us vs:List Value},RelL c asL us→RelL c bs vs→RelL c (asL++bs) (us++vs)
 | [],_,us,_,h,h'=>by cases h;exact h'
 | x::xs,_,us,_,⟨u,us',e,r,rs⟩,h'=>by subst e;exact ⟨u,us'++_,rfl,r,RelL.append rs h'⟩
theorem RelL.take {c:Ctx}:∀ {asL:List AVal} {us:List Value} (n:Nat),RelL c asL us→RelL c (asL.take n) (us.take n)
 | _,us,0,_=>by simp [RelL]
 | [],us,n+1,h=>by cases h;simp [RelL]
 | x::xs,us,n+1,⟨u,us',e,r,rs⟩=>by subst e;exact ⟨u,us'.take n,rfl,r,RelL.take n rs⟩
theorem RelL.drop {c:Ctx}:∀ {asL:List AVal} {us:List Value} (n:Nat),RelL c asL us→RelL c (asL.drop n) (us.drop n)
 | _,us,0,h=>h
 | [],us,n+1,h=>by cases h;simp [RelL]
 | x::xs,us,n+1,⟨u,us',e,r,rs⟩=>by subst e;simpa using RelL.drop n rs
theorem RelL.set {c:Ctx}:∀ {asL:List AVal} {us:List Value} {a:AVal} {u:Value} (n:Nat),RelL c asL us→Rel c a u→RelL c (asL.set n a) (us.set n u)
 | [],us,a,u,n,h,_=>by cases h;simp [RelL]
 | x::xs,us,a,u,0,⟨u0,us',e,r,rs⟩,h=>by subst e;exact ⟨u,us',rfl,h,rs⟩
 | x::xs,us,a,u,n+1,⟨u0,us',e,r,rs⟩,h=>by subst e;exact ⟨u0,us'.set n u,rfl,r,RelL.set n rs h⟩
theorem RelR.get {c:Ctx} {es:Nat} {rd:Nat→Option Value}:∀ {asL:List AVal} {k:Nat},RelR c es rd k asL→∀ {i:Nat} {a:AVal},asL[i]? = some a →
  ∃ u,Rel c a u∧u.cells.size=es∧∀ q,q < es→rd ((k+i)*es+q)=u.cells[q]?
 | [],k,_,i,a,ha=>by simp at ha
 | x::xs,k,⟨hx,rs⟩,i,a,ha=>by
  cases i with
  | zero=>simp at ha;subst ha;simpa using hx
  | succ i =>
   simp at ha
   have:=RelR.get rs ha
   rwa [show k+1+i=k+(i+1) by omega] at this
theorem RelR.of_get {c:Ctx} {es:Nat} {rd:Nat→Option Value}:∀ {asL:List AVal} {k:Nat},
  (∀ (i:Nat) (a:AVal),asL[i]? = some a→∃ u,Rel c a u∧u.cells.size=es∧∀ q,q < es→rd ((k+i)*es+q)=u.cells[q]?)→RelR c es rd k asL
 | [],k,_=>trivial
 | x::xs,k,h=>⟨by simpa using h 0 x rfl,RelR.of_get fun i a ha=>by
   have:=h (i+1) a (by simpa using ha)
   rwa [show k+(i+1)=k+1+i by omega] at this⟩
theorem oneCell_cells {u:Value} (h:u.oneCell'=true):u.cells.toList=[u]:=by
 cases u<;>simp_all [Value.cells,Value.oneCell']
def AVal.one:AVal→Bool
 | .v x=>x.oneCell'
 | .agg _ | .tup _=>false
 | _=>true
def AVal.flat:AVal→Bool
 | .agg cs=>cs.all AVal.one
 | .tup _=>false
 | .v x=>x.oneCell'
 | _=>true
theorem Rel.one {c:Ctx} {a:AVal} {u:Value} (h:Rel c a u) (hv:a.one=true):u.oneCell'=true:=by
 cases a with
 | v x=>have h0:u=x:=h;subst h0;exact hv
 | agg cs=>simp [AVal.one] at hv
 | tup cs=>simp [AVal.one] at hv
 | sl xs=>obtain ⟨A,m,es,rfl,_⟩:=h;rfl
 | slf xs=>obtain ⟨A,es,rfl,_⟩:=h;rfl
 | slz xs=>obtain ⟨A,m,es,rfl,_⟩:=h;rfl
 | pp xs o=>obtain ⟨b,o,us,rfl,_⟩:=h;rfl
 | fn=>obtain ⟨b,o,rfl,_⟩:=h;rfl
 | ifc=>obtain ⟨y,rfl,_⟩:=h;rfl
 | arr=>exact h.1
 | ptr=>obtain ⟨e,b,_,_,_,rfl⟩:=h;rfl
 | ep=>exact h.1
 | hd=>exact h.1
 | bs=>obtain ⟨e,b,_,_,_,rfl⟩:=h;rfl
 | mp=>obtain ⟨e,b,_,_,_,rfl⟩:=h;rfl
theorem RelL.ones {c:Ctx}:∀ {asL:List AVal} {us:List Value},RelL c asL us→asL.all AVal.one=true→∀ u∈us,u.oneCell'=true
 | [],us,h,_=>by cases h;simp
 | x::xs,us,⟨u,us',e,r,rs⟩,ho=>by
  subst e
  simp only [List.all_cons,Bool.and_eq_true] at ho
  intro y hy
  cases List.mem_cons.1 hy with
  | inl e=>subst e;exact r.one ho.1
  | inr hm=>exact RelL.ones rs ho.2 y hm
theorem Rel.cells {c:Ctx} {a:AVal} {u:Value} (h:Rel c a u) (hv:a.flat=true):RelL c a.cells u.cells.toList∧∀ x∈u.cells.toList,x.oneCell'=true:=by
 cases a with
 | agg cs=>obtain ⟨a,rfl,r⟩:=h;exact ⟨r,r.ones hv⟩
 | tup cs=>simp [AVal.flat] at hv
 | v x =>
  have h1:u.oneCell'=true:=Rel.one h hv
  rw [oneCell_cells h1]
  exact ⟨⟨u,[],rfl,h,rfl⟩,by simpa using h1⟩
 | _ =>
  have h1:u.oneCell'=true:=Rel.one h rfl
  rw [oneCell_cells h1]
  exact ⟨⟨u,[],rfl,h,rfl⟩,by simpa using h1⟩
end Go.AL
namespace Go.AL
open Go
structure LoopS where
 fn:FuncId
 n:Nat
 ts:List Nat
 ps:Array Tmp
 assign:Code
 body:Code
 d:Nat
inductive AObj where
 | box (t:TypeId) (cs:List AVal)
 | arr (g:Nat) (t:TypeId) (es:Nat) (xs:List AVal)
 | raw (b:Nat) (o:Obj)
 | map (es:List (Value × AVal))
 | dead (g:Nat)
 | row (g:Nat) (t:TypeId) (es:Nat) (xs:List AVal)
 | fix (b:Nat) (o:Obj)
 | loop (l:Nat) (st:LoopState) (pend:Option Code) (s:LoopS) (vs:List AVal)
 | vmap (es:List (Value × Value))
def RelM (c:Ctx):List (Value × AVal)→List MapEntry→Prop
 | [],ms=>ms=[]
 | (k,x)::es,ms=>∃ m ms',ms=m::ms'∧m.key=k∧Rel c x m.val∧RelM c es ms'
theorem RelM.le {c c':Ctx} (h:c.le c'):∀ {es:List (Value × AVal)} {ms:List MapEntry},RelM c es ms→RelM c' es ms
 | [],_,r=>r
 | (k,x)::es,_,⟨m,ms',e,h1,r,rs⟩=>⟨m,ms',e,h1,r.le h,rs.le h⟩
def vals (es:List (Value × Value)):List (Value × AVal):=es.map fun p=>(p.1,.v p.2)
theorem RelM.vals {c c':Ctx}:∀ {es:List (Value × Value)} {ms:List MapEntry},RelM c (AL.vals es) ms→RelM c' (AL.vals es) ms
 | [],_,r=>r
 | (k,x)::es,_,⟨m,ms',e,h1,r,rs⟩=>⟨m,ms',e,h1,r,RelM.vals rs⟩
def RelO (c:Ctx) (e:Ent):AObj→Prop
 | .box t cs=>e.gen=0∧cs.all AVal.one=true∧∃ b us,e.blk=some b∧c.w.heap[b]? = some (.cells us t (0,0))∧RelL c cs us.toList
 | .arr g t es xs=>e.gen=g∧g≠0∧e.es=es∧e.len=xs.length∧xs.length≤e.cap∧match e.blk with
  | none=>e.cap=0
  | some b=>∃ us,c.w.heap[b]? = some (.cells us t (0,0))∧us.size=e.cap*es∧RelR { c with β:=[] } es (fun i=>us[i]?) 0 xs
 | .raw b o=>e.gen=0∧e.blk=some b∧c.w.heap[b]? = some o
 | .fix b o=>e.gen=0∧e.blk=none∧c.w.heap[b]? = some o∧(∀ d,o ≠ .deferred d)∧¬c.bad b∧b < c.w.heap.size
 | .loop l st pend s vs=>e.gen=0∧e.blk=some l∧∃ tmps us,c.w.heap[l]? = some (.loop ⟨st,pend,s.fn,tmps,s.ps,s.assign,s.body,s.d⟩)∧tmps.size=s.n∧RelL c vs us∧us.length=s.ts.length∧∀ (i t:Nat),s.ts[i]? = some t→tmps[t]? = us[i]?
 | .map es=>e.gen=0∧∃ b ms clock,e.blk=some b∧c.w.heap[b]? = some (.map ms clock)∧RelM c es ms.toList
 | .dead g=>e.gen=g∧g≠0∧e.blk=none
 | .vmap es=>e.gen=0∧∃ b ms clock,e.blk=some b∧c.w.heap[b]? = some (.map ms clock)∧RelM c (vals es) ms.toList
 | .row g t es xs=>e.gen=g∧g≠0∧e.es=es∧e.len=xs.length∧e.cap=xs.length∧∃ b us,e.blk=some b∧c.w.heap[b]? = some (.cells us t (0,0))∧us.size=e.cap*es∧RelR { c with β:=[] } es (fun i=>us[i]?) 0 xs
theorem RelO.le {c c':Ctx} (h:c.le c') {e:Ent} {o:AObj} (hb:∀ b,e.blk=some b→c'.w.heap[b]? = c.w.heap[b]?) (r:RelO c e o):RelO c' e o:=by
 cases o with
 | box t cs=>obtain ⟨h1,h2,b,us,h3,h4,h5⟩:=r;exact ⟨h1,h2,b,us,h3,(hb b h3).trans h4,h5.le h⟩
 | arr g t es xs =>
  obtain ⟨h1,h0,h2,hl,h3,h4⟩:=r
  refine ⟨h1,h0,h2,hl,h3,?_⟩
  cases hk:e.blk with
  | none=>rw [hk] at h4;exact h4
  | some b =>
   rw [hk] at h4
   obtain ⟨us,h5,h6,h7⟩:=h4
   exact ⟨us,(hb b hk).trans h5,h6,h7.le h.bare _ _ _ _⟩
 | raw b o=>obtain ⟨h1,h3,h4⟩:=r;exact ⟨h1,h3,(hb b h3).trans h4⟩
 | loop l st pend s vs=>obtain ⟨h1,h3,tmps,us,h4,h5,h6,h7⟩:=r;exact ⟨h1,h3,tmps,us,(hb l h3).trans h4,h5,h6.le h,h7⟩
 | fix b o =>
  obtain ⟨h1,h3,h4,h5,h6,h7⟩:=r
  obtain ⟨k1,k2,k3⟩:=h.old b h7 h6
  refine ⟨h1,h3,?_,h5,k2,k1⟩
  rcases k3 with k3|⟨d,d',k3,_⟩
  ·exact k3.trans h4
  ·rw [h4] at k3;injection k3 with k3;exact absurd k3 (h5 d)
 | map es=>obtain ⟨h1,b,ms,clock,h3,h4,h5⟩:=r;exact ⟨h1,b,ms,clock,h3,(hb b h3).trans h4,h5.le h⟩
 | dead g=>exact r
 | vmap es=>obtain ⟨h1,b,ms,clock,h3,h4,h5⟩:=r;exact ⟨h1,b,ms,clock,h3,(hb b h3).trans h4,h5.le h⟩
 | row g t es xs =>
  obtain ⟨h1,h0,h2,hl,h3,b,us,h4,h5,h6,h7⟩:=r
  exact ⟨h1,h0,h2,hl,h3,b,us,h4,(hb b h4).trans h5,h6,h7.le h.bare _ _ _ _⟩
def Blk (β:List Ent) (b:Nat):Prop:=∃ (j:Nat) (e:Ent),β[j]? = some e∧e.blk=some b
def bad (ext:Nat→Prop) (β:List Ent) (b:Nat):Prop:=ext b∨Blk β b
abbrev ctx (ext:Nat→Prop) (w:World) (β:List Ent):Ctx:=⟨w,β,bad ext β⟩
structure Inv (ext:Nat→Prop) (w:World) (H:List AObj) (β:List Ent):Prop where
 len:β.length=H.length
 obj:∀ (j:Nat) (o:AObj) (e:Ent),H[j]? = some o→β[j]? = some e→RelO (ctx ext w β) e o
 uniq:∀ (i j:Nat) (e f:Ent) (b:Nat),β[i]? = some e→β[j]? = some f→e.blk=some b→f.blk=some b→i=j
 sep:∀ b,Blk β b→¬ext b∧b < w.heap.size
structure Step (w:World) (β:List Ent) (w':World) (β':List Ent):Prop where
 os:w'.os=w.os
 tape:w'.tape=w.tape
 output:w'.output=w.output
 size:w.heap.size≤w'.heap.size
 keep:∀ b,b < w.heap.size→¬Blk β b→w'.heap[b]? = w.heap[b]?
 fresh:∀ b,Blk β' b→Blk β b∨w.heap.size≤b
 ents:∀ (j:Nat) (e:Ent),β[j]? = some e→∃ e',β'[j]? = some e'∧e.gen≤e'.gen∧(e'.gen=e.gen→e'=e)∧(e.gen=0→e'=e)
theorem Step.refl (w:World) (β:List Ent):Step w β w β :=
 ⟨rfl,rfl,rfl,Nat.le_refl _,fun _ _ _=>rfl,fun _ h=>.inl h,fun j e h=>⟨e,h,Nat.le_refl _,fun _=>rfl,fun _=>rfl⟩⟩
theorem Step.trans {w w' w'':World} {β β' β'':List Ent} (h:Step w β w' β') (k:Step w' β' w'' β''):Step w β w'' β'' where
 os:=k.os.trans h.os
 tape:=k.tape.trans h.tape
 output:=k.output.trans h.output
 size:=Nat.le_trans h.size k.size
 keep:=fun b hb hn=>by
  have hn':¬Blk β' b:=fun hB=>by
   rcases h.fresh b hB with h1|h1
   ·exact hn h1
   ·omega
  exact (k.keep b (Nat.lt_of_lt_of_le hb h.size) hn').trans (h.keep b hb hn)
 fresh:=fun b hb=>by
  rcases k.fresh b hb with h1|h1
  ·exact h.fresh b h1
  ·exact .inr (Nat.le_trans h.size h1)
 ents:=fun j e he=>by
  obtain ⟨e',h1,h2,h3,h4⟩:=h.ents j e he
  obtain ⟨e'',k1,k2,k3,k4⟩:=k.ents j e' h1
  refine ⟨e'',k1,Nat.le_trans h2 k2,fun hg=>?_,fun hg=>?_⟩
  ·have:e'.gen=e.gen:=by omega
   obtain rfl:=h3 this
   exact k3 hg
  ·obtain rfl:=h4 hg
   exact k4 hg
theorem Step.le {ext:Nat→Prop} {w w':World} {β β':List Ent} (h:Step w β w' β'):(ctx ext w β).le (ctx ext w' β') where
 old:=fun b hs hb=>by
  have h1:¬ext b:=fun h=>hb (.inl h)
  have h2:¬Blk β b:=fun h=>hb (.inr h)
  refine ⟨Nat.lt_of_lt_of_le hs h.size,?_,.inl (h.keep b hs h2)⟩
  rintro (h3|h3)
  ·exact h1 h3
  ·rcases h.fresh b h3 with h4|h4
   ·exact h2 h4
   ·exact absurd hs (by simpa using h4)
 ents:=h.ents
structure SameMem (w w':World):Prop where
 os:w'.os=w.os
 tape:w'.tape=w.tape
 output:w'.output=w.output
 heap:w'.heap=w.heap
theorem SameMem.step {w w':World} (h:SameMem w w') (β:List Ent):Step w β w' β :=
 ⟨h.os,h.tape,h.output,by rw [h.heap];exact Nat.le_refl _,fun b _ _=>by rw [h.heap],fun b hb=>.inl hb,fun j e he=>⟨e,he,Nat.le_refl _,fun _=>rfl,fun _=>rfl⟩⟩
theorem Inv.upd {ext:Nat→Prop} {w w':World} {H H':List AObj} {β β':List Ent} (hI:Inv ext w H β) (hs:Step w β w' β') (hlen:β'.length=H'.length)
  (hobj:∀ (j:Nat) (o:AObj) (e:Ent),H'[j]? = some o→β'[j]? = some e →
   (H[j]? = some o∧β[j]? = some e∧∀ b,e.blk=some b→w'.heap[b]? = w.heap[b]?)∨RelO (ctx ext w' β') e o)
  (huniq:∀ (i j:Nat) (e f:Ent) (b:Nat),β'[i]? = some e→β'[j]? = some f→e.blk=some b→f.blk=some b→i=j)
  (hsep:∀ b,Blk β' b→¬ext b∧b < w'.heap.size):Inv ext w' H' β' where
 len:=hlen
 obj:=fun j o e ho he=>by
  rcases hobj j o e ho he with ⟨h1,h2,h3⟩|h1
  ·exact (hI.obj j o e h1 h2).le hs.le h3
  ·exact h1
 uniq:=huniq
 sep:=hsep
theorem Inv.same {ext:Nat→Prop} {w w':World} {H:List AObj} {β:List Ent} (hI:Inv ext w H β) (hs:SameMem w w'):Inv ext w' H β :=
 hI.upd (hs.step β) hI.len (fun j o e ho he=>.inl ⟨ho,he,fun b _=>by rw [hs.heap]⟩) hI.uniq (fun b hb=>⟨(hI.sep b hb).1,by rw [hs.heap];exact (hI.sep b hb).2⟩)
theorem Blk.append {β:List Ent} {e:Ent} {b:Nat}:Blk (β++[e]) b↔Blk β b∨e.blk=some b:=by
 constructor
 ·rintro ⟨j,f,hj,hf⟩
  rcases Nat.lt_or_ge j β.length with hlt|hge
  ·rw [List.getElem?_append_left hlt] at hj;exact .inl ⟨j,f,hj,hf⟩
  ·rw [List.getElem?_append_right hge] at hj
   rcases hk:j-β.length with _|m
   ·rw [hk] at hj;simp at hj;subst hj;exact .inr hf
   ·rw [hk] at hj;simp at hj
 ·rintro (⟨j,f,hj,hf⟩|h)
  ·exact ⟨j,f,by rw [List.getElem?_append_left (List.getElem?_eq_some_iff.1 hj).1];exact hj,hf⟩
  ·exact ⟨β.length,e,by simp,h⟩
def World.push (w:World) (o:Obj):World:={ w with heap:=w.heap.push o }
theorem push_get {w:World} {o:Obj} {b:Nat} (h:b < w.heap.size):(World.push w o).heap[b]? = w.heap[b]?:=by
 show (w.heap.push o)[b]? = _
 rw [Array.getElem?_push,if_neg (by omega)]
theorem push_top {w:World} {o:Obj}:(World.push w o).heap[w.heap.size]? = some o:=by
 show (w.heap.push o)[w.heap.size]? = _
 rw [Array.getElem?_push,if_pos rfl]
theorem push_size {w:World} {o:Obj}:(World.push w o).heap.size=w.heap.size+1:=by
 show (w.heap.push o).size=_
 rw [Array.size_push]
theorem Step.push (w:World) (β:List Ent) (o:Obj):Step w β (World.push w o) β :=
 ⟨rfl,rfl,rfl,by rw [push_size];omega,fun b hb _=>push_get hb,fun b hb=>.inl hb,fun j e he=>⟨e,he,Nat.le_refl _,fun _=>rfl,fun _=>rfl⟩⟩
theorem Inv.push {ext:Nat→Prop} {w:World} {H:List AObj} {β:List Ent} (hI:Inv ext w H β) (o:Obj):Inv ext (World.push w o) H β :=
 hI.upd (Step.push w β o) hI.len (fun j o e ho he=>.inl ⟨ho,he,fun b hb=>push_get (hI.sep b ⟨j,e,he,hb⟩).2⟩) hI.uniq
  (fun b hb=>⟨(hI.sep b hb).1,by rw [push_size];have:=(hI.sep b hb).2;omega⟩)
theorem Step.alloc (w:World) (β:List Ent) (o:Obj) (e:Ent) (he:e.blk=some w.heap.size∨e.blk=none):Step w β (World.push w o) (β++[e]) where
 os:=rfl
 tape:=rfl
 output:=rfl
 size:=by rw [push_size];omega
 keep:=fun b hb _=>push_get hb
 fresh:=fun b hb=>by
  rcases Blk.append.1 hb with h|h
  ·exact .inl h
  ·rcases he with h'|h'
   ·rw [h'] at h;simp at h;exact .inr (by omega)
   ·rw [h'] at h;cases h
 ents:=fun j f hf=>⟨f,by rw [List.getElem?_append_left (List.getElem?_eq_some_iff.1 hf).1];exact hf,Nat.le_refl _,fun _=>rfl,fun _=>rfl⟩
theorem Inv.alloc {ext:Nat→Prop} {w:World} {H:List AObj} {β:List Ent} (hI:Inv ext w H β) (hext:∀ b,ext b→b < w.heap.size) (o:Obj) (e:Ent) (a:AObj)
  (he:e.blk=some w.heap.size∨e.blk=none) (ha:RelO (ctx ext (World.push w o) (β++[e])) e a):Inv ext (World.push w o) (H++[a]) (β++[e]):=by
 refine hI.upd (Step.alloc w β o e he) (by simp [hI.len]) ?_ ?_ ?_
 ·intro j o' f ho hf
  rcases Nat.lt_or_ge j β.length with hlt|hge
  ·rw [List.getElem?_append_left hlt] at hf
   rw [List.getElem?_append_left (by rw [←hI.len];exact hlt)] at ho
   exact .inl ⟨ho,hf,fun b hb=>push_get (hI.sep b ⟨j,f,hf,hb⟩).2⟩
  ·rw [List.getElem?_append_right hge] at hf
   rw [List.getElem?_append_right (by rw [←hI.len];exact hge)] at ho
   rw [←hI.len] at ho
   rcases hk:j-β.length with _|m
   ·rw [hk] at ho hf;simp at ho hf;subst ho;subst hf;exact .inr ha
   ·rw [hk] at hf;simp at hf
 ·intro i j x y b hi hj hx hy
  have old:∀ (i:Nat) (x:Ent),(β++[e])[i]? = some x→x.blk=some b→(β[i]? = some x∧b < w.heap.size)∨(i=β.length∧b=w.heap.size):=by
   intro i x hi hx
   rcases Nat.lt_or_ge i β.length with hlt|hge
   ·rw [List.getElem?_append_left hlt] at hi
    exact .inl ⟨hi,(hI.sep b ⟨i,x,hi,hx⟩).2⟩
   ·rw [List.getElem?_append_right hge] at hi
    rcases hk:i-β.length with _|m
    ·rw [hk] at hi;simp at hi;subst hi
     rcases he with h'|h'
     ·rw [h'] at hx;simp at hx;exact .inr ⟨by omega,hx.symm⟩
     ·rw [h'] at hx;cases hx
    ·rw [hk] at hi;simp at hi
  rcases old i x hi hx with ⟨h1,h2⟩|⟨h1,h2⟩<;>rcases old j y hj hy with ⟨h3,h4⟩|⟨h3,h4⟩
  ·exact hI.uniq i j x y b h1 h3 hx hy
  ·omega
  ·omega
  ·omega
 ·intro b hb
  rcases Blk.append.1 hb with h|h
  ·exact ⟨(hI.sep b h).1,by rw [push_size];have:=(hI.sep b h).2;omega⟩
  ·rcases he with h'|h'
   ·rw [h'] at h;simp at h
    subst h
    refine ⟨fun hx=>?_,by rw [push_size];omega⟩
    have:=hext _ hx
    omega
   ·rw [h'] at h;cases h
theorem Step.write {w w':World} {β:List Ent} {b:Nat} (hb:Blk β b) (hs:w'.heap.size=w.heap.size) (hk:∀ c,c≠b→w'.heap[c]? = w.heap[c]?)
  (ho:w'.os=w.os) (ht:w'.tape=w.tape) (hu:w'.output=w.output):Step w β w' β :=
 ⟨ho,ht,hu,by omega,fun c _ hn=>hk c (fun e=>hn (e ▸ hb)),fun b hb=>.inl hb,fun j e he=>⟨e,he,Nat.le_refl _,fun _=>rfl,fun _=>rfl⟩⟩
theorem Inv.write {ext:Nat→Prop} {w w':World} {H:List AObj} {β:List Ent} (hI:Inv ext w H β) {j b:Nat} {e:Ent} {a:AObj} (he:β[j]? = some e) (hb:e.blk=some b)
  (hs:w'.heap.size=w.heap.size) (hk:∀ c,c≠b→w'.heap[c]? = w.heap[c]?) (ho:w'.os=w.os) (ht:w'.tape=w.tape) (hu:w'.output=w.output)
  (ha:RelO (ctx ext w' β) e a):Inv ext w' (H.set j a) β:=by
 refine hI.upd (Step.write ⟨j,e,he,hb⟩ hs hk ho ht hu) (by simp [hI.len]) ?_ hI.uniq (fun b hb=>⟨(hI.sep b hb).1,by rw [hs];exact (hI.sep b hb).2⟩)
 intro i o f hi hf
 by_cases hij:i=j
 ·subst hij
  rw [List.getElem?_set_self (by rw [←hI.len];exact (List.getElem?_eq_some_iff.1 he).1)] at hi
  simp at hi;subst hi
  rw [he] at hf;simp at hf;subst hf
  exact .inr ha
 ·rw [List.getElem?_set_ne (by omega)] at hi
  refine .inl ⟨hi,hf,fun c hc=>hk c fun hcb=>hij ?_⟩
  subst hcb
  exact hI.uniq i j f e c hf he hc hb
theorem Step.move {w:World} {β:List Ent} (o:Obj) {j:Nat} {e e':Ent} (he:β[j]? = some e) (h0:e.gen≠0) (hg:e.gen < e'.gen) (hb:e'.blk=some w.heap.size∨e'.blk=none∨e'.blk=e.blk) :
  Step w β (World.push w o) (β.set j e') where
 os:=rfl
 tape:=rfl
 output:=rfl
 size:=by rw [push_size];omega
 keep:=fun b hb _=>push_get hb
 fresh:=fun b ⟨i,f,hi,hf⟩=>by
  by_cases hij:i=j
  ·subst hij
   rw [List.getElem?_set_self (List.getElem?_eq_some_iff.1 he).1] at hi
   simp at hi;subst hi
   rcases hb with h'|h'|h'
   ·rw [h'] at hf;simp at hf;exact .inr (by omega)
   ·rw [h'] at hf;cases hf
   ·exact .inl ⟨i,e,he,by rw [←h'];exact hf⟩
  ·rw [List.getElem?_set_ne (by omega)] at hi
   exact .inl ⟨i,f,hi,hf⟩
 ents:=fun i f hf=>by
  by_cases hij:i=j
  ·subst hij
   rw [he] at hf;simp at hf;subst hf
   exact ⟨e',by rw [List.getElem?_set_self (List.getElem?_eq_some_iff.1 he).1],by omega,fun h=>by omega,fun h=>absurd h h0⟩
  ·exact ⟨f,by rw [List.getElem?_set_ne (by omega)];exact hf,Nat.le_refl _,fun _=>rfl,fun _=>rfl⟩
theorem Step.regen {w:World} {β:List Ent} {j:Nat} {e e':Ent} (he:β[j]? = some e) (h0:e.gen≠0) (hg:e.gen < e'.gen) (hb:e'.blk=none∨e'.blk=e.blk) :
  Step w β w (β.set j e') where
 os:=rfl
 tape:=rfl
 output:=rfl
 size:=Nat.le_refl _
 keep:=fun b hb _=>rfl
 fresh:=fun b ⟨i,f,hi,hf⟩=>by
  by_cases hij:i=j
  ·subst hij
   rw [List.getElem?_set_self (List.getElem?_eq_some_iff.1 he).1] at hi
   simp at hi;subst hi
   rcases hb with h'|h'
   ·rw [h'] at hf;cases hf
   ·exact .inl ⟨i,e,he,by rw [←h'];exact hf⟩
  ·rw [List.getElem?_set_ne (by omega)] at hi
   exact .inl ⟨i,f,hi,hf⟩
 ents:=fun i f hf=>by
  by_cases hij:i=j
  ·subst hij
   rw [he] at hf;simp at hf;subst hf
   exact ⟨e',by rw [List.getElem?_set_self (List.getElem?_eq_some_iff.1 he).1],by omega,fun h=>by omega,fun h=>absurd h h0⟩
  ·exact ⟨f,by rw [List.getElem?_set_ne (by omega)];exact hf,Nat.le_refl _,fun _=>rfl,fun _=>rfl⟩
theorem Inv.set {ext:Nat→Prop} {w w':World} {H:List AObj} {β:List Ent} (hI:Inv ext w H β) (hext:∀ b,ext b→b < w.heap.size) {j:Nat} {e e':Ent} {a:AObj} (he:β[j]? = some e)
  (hs:Step w β w' (β.set j e')) (hk:∀ c,c < w.heap.size→e.blk≠some c→w'.heap[c]? = w.heap[c]?)
  (hb:(e'.blk=some w.heap.size∧w.heap.size < w'.heap.size)∨e'.blk=none∨e'.blk=e.blk) (ha:RelO (ctx ext w' (β.set j e')) e' a):Inv ext w' (H.set j a) (β.set j e'):=by
 have hj:=(List.getElem?_eq_some_iff.1 he).1
 have cls:∀ (i:Nat) (f:Ent),(β.set j e')[i]? = some f→(i=j∧f=e')∨(i≠j∧β[i]? = some f):=fun i f hi=>by
  by_cases hij:i=j
  ·subst hij
   rw [List.getElem?_set_self hj] at hi
   simp at hi;exact .inl ⟨rfl,hi.symm⟩
  ·rw [List.getElem?_set_ne (by omega)] at hi
   exact .inr ⟨hij,hi⟩
 have hnew:∀ b,e'.blk=some b→(b=w.heap.size∧b < w'.heap.size)∨e.blk=some b:=fun b h=>by
  rcases hb with ⟨h',h2⟩|h'|h'
  ·rw [h'] at h;simp at h;subst h;exact .inl ⟨rfl,h2⟩
  ·rw [h'] at h;cases h
  ·exact .inr (by rw [←h'];exact h)
 refine hI.upd hs (by simp [hI.len]) ?_ ?_ ?_
 ·intro i o f hi hf
  rcases cls i f hf with ⟨h1,h2⟩|⟨h1,h2⟩
  ·subst h1;subst h2
   rw [List.getElem?_set_self (by rw [←hI.len];exact hj)] at hi
   simp at hi;subst hi
   exact .inr ha
  ·rw [List.getElem?_set_ne (by omega)] at hi
   exact .inl ⟨hi,h2,fun c hc=>hk c (hI.sep c ⟨i,f,h2,hc⟩).2 fun hec=>h1 (hI.uniq i j f e c h2 he hc hec)⟩
 ·intro i k x y b hi hk' hx hy
  rcases cls i x hi with ⟨h1,h2⟩|⟨h1,h2⟩<;>rcases cls k y hk' with ⟨h3,h4⟩|⟨h3,h4⟩
  ·omega
  ·subst h2
   rcases hnew b hx with ⟨h5,_⟩|h5
   ·have:=(hI.sep b ⟨k,y,h4,hy⟩).2;omega
   ·have:=hI.uniq j k e y b he h4 h5 hy;omega
  ·subst h4
   rcases hnew b hy with ⟨h5,_⟩|h5
   ·have:=(hI.sep b ⟨i,x,h2,hx⟩).2;omega
   ·have:=hI.uniq i j x e b h2 he hx h5;omega
  ·exact hI.uniq i k x y b h2 h4 hx hy
 ·rintro b ⟨i,f,hi,hf⟩
  rcases cls i f hi with ⟨h1,h2⟩|⟨h1,h2⟩
  ·subst h2
   rcases hnew b hf with ⟨h5,h6⟩|h5
   ·refine ⟨fun hx=>?_,h6⟩
    have:=hext b hx
    omega
   ·have:=hI.sep b ⟨j,e,he,h5⟩;exact ⟨this.1,Nat.lt_of_lt_of_le this.2 hs.size⟩
  ·have:=hI.sep b ⟨i,f,h2,hf⟩;exact ⟨this.1,Nat.lt_of_lt_of_le this.2 hs.size⟩
end Go.AL
namespace Go.AL
open Go
abbrev Fr:=List (Nat × AVal)
def fget:Fr→Nat→Option AVal
 | [],_=>none
 | (k,v)::r,t=>cond (Nat.beq k t) (some v) (fget r t)
def fput (F:Fr) (d:Option Tmp) (v:AVal):Fr :=
 match d with
 | some d=>(d,v)::F
 | none=>F
def constA:Value→AVal
 | .slice none 0 0=>.slf []
 | v=>.v v
def ev (F:Fr):Operand→Option AVal
 | .tmp t=>fget F t
 | .const v=>some (constA v)
 | .func f=>some (.fn (.func f) [] [])
 | .global _=>none
theorem constA_rel (c:Ctx) (v:Value):Rel c (constA v) v:=by
 unfold constA
 split
 ·exact ⟨none,0,rfl,fun h=>absurd rfl h,trivial⟩
 ·rfl
structure Gh where
 w0:World
 β0:List Ent
 ext:Nat→Prop
 n:Nat
 defers:List Deferred:=[]
 rd:Option Nat:=none
 nm:Bool:=false
def coll (r:Nat):Deferred:={ target:=.collected r,args:=#[] }
def Marks (G:Gh) (β:List Ent) (a:Act) (w:World):Prop:=∃ ms:List Nat,ms.Nodup∧a.defers=ms.map coll++G.defers ∧
 (∀ r∈ms,G.w0.heap.size≤r∧r < w.heap.size∧¬bad G.ext β r∧w.heap[r]? = some (.deferred (some [])))∧(G.nm=true→ms=[])
theorem Marks.step {G:Gh} {β β':List Ent} {a a':Act} {w w':World} (h:Marks G β a w) (hs:Step w β w' β') (ha:a'.defers=a.defers):Marks G β' a' w':=by
 obtain ⟨ms,h1,h2,h3,h4⟩:=h
 refine ⟨ms,h1,ha.trans h2,fun r hr=>?_,h4⟩
 obtain ⟨k1,k2,k3,k4⟩:=h3 r hr
 refine ⟨k1,Nat.lt_of_lt_of_le k2 hs.size,?_,(hs.keep r k2 fun hb=>k3 (.inr hb)).trans k4⟩
 rintro (hb|hb)
 ·exact k3 (.inl hb)
 ·rcases hs.fresh r hb with h4|h4
  ·exact k3 (.inr h4)
  ·omega
def fz (r:Option Nat):Fence:={ Fence.wide with round:=r }
structure StB (G:Gh) (β:List Ent) (F:Fr) (H:List AObj) (a:Act) (w:World):Prop where
 inv:Inv G.ext w H β
 step:Step G.w0 G.β0 w β
 extOk:∀ b,G.ext b→b < w.heap.size
 size:a.tmps.size=G.n
 defers:Marks G β a w
 get:∀ (t:Nat) (v:AVal),fget F t=some v→∃ u,a.tmps[t]? = some u∧Rel (ctx G.ext w β) v u
def St (G:Gh) (F:Fr) (H:List AObj) (a:Act) (w:World):Prop:=∃ β,StB G β F H a w
theorem StB.ev {G:Gh} {β:List Ent} {F:Fr} {H:List AObj} {a:Act} {w:World} (h:StB G β F H a w) {x:Operand} {v:AVal} (hx:ev F x=some v) :
  Rel (ctx G.ext w β) v (a.eval x):=by
 cases x with
 | tmp t =>
  obtain ⟨u,h1,h2⟩:=h.get t v hx
  simpa [Act.eval,Array.getD,h1] using (show Rel _ v (a.tmps.getD t undef) by rw [Array.getD_eq_getD_getElem?,h1];exact h2)
 | const u=>simp [AL.ev] at hx;subst hx;exact constA_rel _ _
 | global g=>simp [AL.ev] at hx
 | func f=>simp [AL.ev] at hx;subst hx;exact ⟨#[],#[],rfl,rfl,rfl⟩
theorem StB.world {G:Gh} {β β':List Ent} {F:Fr} {H H':List AObj} {a:Act} {w w':World} (h:StB G β F H a w) (hi:Inv G.ext w' H' β') (hs:Step w β w' β'):StB G β' F H' a w' where
 inv:=hi
 step:=h.step.trans hs
 extOk:=fun b hb=>Nat.lt_of_lt_of_le (h.extOk b hb) hs.size
 size:=h.size
 defers:=h.defers.step hs rfl
 get:=fun t v ht=>by
  obtain ⟨u,h1,h2⟩:=h.get t v ht
  exact ⟨u,h1,h2.le hs.le⟩
theorem StB.put {G:Gh} {β:List Ent} {F:Fr} {H:List AObj} {a:Act} {w:World} (h:StB G β F H a w) {d:Option Tmp} {v:AVal} {u:Value}
  (hr:Rel (ctx G.ext w β) v u) (hd:∀ t,d=some t→t < G.n):StB G β (fput F d v) H (a.put d u) w:=by
 cases d with
 | none=>exact h
 | some t =>
  refine ⟨h.inv,h.step,h.extOk,by simp [Act.put,h.size],h.defers.step (Step.refl _ _) rfl,fun s x hs=>?_⟩
  have ht:t < a.tmps.size:=by rw [h.size];exact hd t rfl
  simp only [fput,fget] at hs
  cases hb:Nat.beq t s with
  | true =>
   have:t=s:=Nat.eq_of_beq_eq_true hb
   subst this
   rw [hb] at hs;simp at hs;subst hs
   exact ⟨u,by simp [Act.put,ht],hr⟩
  | false =>
   have hne:t≠s:=fun e=>by subst e;simp at hb
   rw [hb] at hs;simp at hs
   obtain ⟨y,h1,h2⟩:=h.get s x hs
   exact ⟨y,by simp [Act.put,Array.getElem?_setIfInBounds_ne hne,h1],h2⟩
theorem StB.undef {G:Gh} {β:List Ent} {F:Fr} {H:List AObj} {a:Act} {w:World} (h:StB G β F H a w) {d:Option Tmp} (hd:∀ t,d=some t→t < G.n) :
  StB G β (fput F d (.tup [])) H (a.put d Go.undef) w:=h.put (v:=.tup []) (u:=Go.undef) ⟨#[],rfl,rfl⟩ hd
inductive AExit where
 | normal
 | exit (id:Nat)
 | ret
 | panic (v:AVal)
abbrev APost:=AExit→Fr→List AObj→Prop
def lift (G:Gh) (Q:APost):Exit→Act→World→Prop
 | .normal,a,w=>∃ F H,Q .normal F H∧St G F H a w
 | .exit id,a,w=>∃ F H,Q (.exit id) F H∧St G F H a w
 | .ret,a,w=>∃ F H,Q .ret F H∧St G F H a w
 | .panic ch,a,w=>∃ v F H β u,Q (.panic v) F H∧StB G β F H a w∧ch=[{ v:=u,recovered:=false }]∧Rel (ctx G.ext w β) v u
 | .goto _,_,_=>False
 | .outgrown,_,_=>False
def AW (P:Program) (G:Gh) (c:Code) (Q:APost) (F:Fr) (H:List AObj):Prop:=∀ a w,St G F H a w→c.wpIn (fz G.rd) 0 P (lift G Q) a w
section
variable {P:Program} {G:Gh} {Q Q':APost} {F F':Fr} {H H':List AObj}
theorem lift_mono (hq:∀ e F H,Q e F H→Q' e F H):∀ e a w,lift G Q e a w→lift G Q' e a w
 | .normal,_,_,⟨F,H,h,s⟩=>⟨F,H,hq _ _ _ h,s⟩
 | .exit _,_,_,⟨F,H,h,s⟩=>⟨F,H,hq _ _ _ h,s⟩
 | .ret,_,_,⟨F,H,h,s⟩=>⟨F,H,hq _ _ _ h,s⟩
 | .panic _,_,_,⟨v,F,H,β,u,h,s⟩=>⟨v,F,H,β,u,hq _ _ _ h,s⟩
 | .goto _,_,_,h=>h.elim
 | .outgrown,_,_,h=>h.elim
theorem AW.mono {c:Code} (h:AW P G c Q F H) (hq:∀ e F H,Q e F H→Q' e F H):AW P G c Q' F H :=
 fun a w hs=>wpIn_mono (h a w hs) (lift_mono hq)
theorem aw_skip (h:Q .normal F H):AW P G .skip Q F H:=fun a w hs=>wpIn_skip ⟨F,H,h,hs⟩
theorem aw_ret (h:Q .ret F H):AW P G .ret Q F H:=fun a w hs=>wpIn_ret ⟨F,H,h,hs⟩
theorem aw_exit {id:Nat} (h:Q (.exit id) F H):AW P G (.exit id) Q F H:=fun a w hs=>wpIn_exit ⟨F,H,h,hs⟩
def athen (K:Fr→List AObj→Prop) (Q:APost):APost
 | .normal,F,H=>K F H
 | e,F,H=>Q e F H
theorem aw_seq {x y:Code} (h:AW P G x (athen (fun F H=>AW P G y Q F H) Q) F H):AW P G (.seq x y) Q F H:=by
 intro a w hs
 refine wpIn_seq (wpIn_mono (h a w hs) ?_)
 intro e a' w' he
 cases e with
 | normal=>obtain ⟨F',H',h1,h2⟩:=he;exact h1 a' w' h2
 | exit id=>exact he
 | ret=>exact he
 | panic ch=>exact he
 | goto l=>exact he.elim
 | outgrown=>exact he.elim
def ablock (id:Nat) (Q:APost):APost
 | .exit id',F,H=>cond (Nat.beq id' id) (Q .normal F H) (Q (.exit id') F H)
 | e,F,H=>Q e F H
theorem aw_block {id:Nat} {c:Code} (h:AW P G c (ablock id Q) F H):AW P G (.block id c) Q F H:=by
 intro a w hs
 refine wpIn_block (wpIn_mono (h a w hs) ?_)
 intro e a' w' he
 cases e with
 | normal=>exact he
 | exit id' =>
  obtain ⟨F',H',h1,h2⟩:=he
  simp only [ablock] at h1
  by_cases hid:id'=id
  ·subst hid
   rw [show Nat.beq id' id'=true by simp] at h1
   simp only [Exit.inBlock,if_true]
   exact ⟨F',H',h1,h2⟩
  ·have:Nat.beq id' id=false:=by
    cases hb:Nat.beq id' id with
    | false=>rfl
    | true=>exact absurd (Nat.eq_of_beq_eq_true hb) hid
   rw [this] at h1
   simp only [Exit.inBlock,if_neg hid]
   exact ⟨F',H',h1,h2⟩
 | ret=>exact he
 | panic ch=>exact he
 | goto l=>exact he.elim
 | outgrown=>exact he.elim
theorem aw_cond {c:Operand} {x y:Code} {b:Bool} (hc:ev F c=some (.v (.bool b))) (ht:b=true→AW P G x Q F H) (hf:b=false→AW P G y Q F H) :
  AW P G (.cond c x y) Q F H:=by
 intro a w hs
 obtain ⟨β,hs'⟩:=hs
 have h1:a.eval c = .bool b:=hs'.ev hc
 exact wpIn_cond_split h1 (fun h=>ht h a w ⟨β,hs'⟩) (fun h=>hf h a w ⟨β,hs'⟩)
theorem aw_cond_t {c:Operand} {x y:Code} (hc:ev F c=some (.v (.bool true))) (ht:AW P G x Q F H):AW P G (.cond c x y) Q F H :=
 aw_cond hc (fun _=>ht) (fun h=>by cases h)
theorem aw_cond_f {c:Operand} {x y:Code} (hc:ev F c=some (.v (.bool false))) (ht:AW P G y Q F H):AW P G (.cond c x y) Q F H :=
 aw_cond hc (fun h=>by cases h) (fun _=>ht)
theorem aw_frame {c:Code} (F':Fr) (hF:∀ t v,fget F' t=some v→fget F t=some v) (h:AW P G c Q F' H):AW P G c Q F H :=
 fun a w ⟨β,hs⟩=>h a w ⟨β,hs.inv,hs.step,hs.extOk,hs.size,hs.defers,fun t v ht=>hs.get t v (hF t v ht)⟩
def fproj (F:Fr):List Nat→Option (List AVal)
 | []=>some []
 | t::ts=>match fget F t,fproj F ts with
  | some v,some vs=>some (v::vs)
  | _,_=>none
theorem fproj_zip:∀ {ts:List Nat} {vs:List AVal},fproj F ts=some vs→∀ t v,fget (ts.zip vs) t=some v→fget F t=some v
 | [],vs,h,t,v,ht=>by simp [fget] at ht
 | s::ts,vs,h,t,v,ht=>by
  simp only [fproj] at h
  cases h1:fget F s with
  | none=>rw [h1] at h;cases h
  | some x =>
   cases h2:fproj F ts with
   | none=>rw [h1,h2] at h;cases h
   | some xs =>
    rw [h1,h2] at h;simp at h;subst h
    simp only [List.zip_cons_cons,fget] at ht
    cases hb:Nat.beq s t with
    | true=>rw [hb] at ht;simp at ht;subst ht;rw [←Nat.eq_of_beq_eq_true hb];exact h1
    | false=>rw [hb] at ht;simp at ht;exact fproj_zip h2 t v ht
theorem StB.proj {β:List Ent} {a:Act} {w:World} (h:StB G β F H a w) {ts:List Nat} {vs:List AVal} (hp:fproj F ts=some vs):StB G β (ts.zip vs) H a w :=
 ⟨h.inv,h.step,h.extOk,h.size,h.defers,fun t v ht=>h.get t v (fproj_zip hp t v ht)⟩
theorem aw_cut {c:Code} (ts:List Nat) {vs:List AVal} (hp:fproj F ts=some vs) (h:AW P G c Q (ts.zip vs) H):AW P G c Q F H :=
 fun a w ⟨β,hs⟩=>h a w ⟨β,hs.proj hp⟩
theorem aw_loop {c:Code} {ι:Type} (ts:List Nat) (V:ι→List AVal) (HH:ι→List AObj) (μ:ι→Nat) (i0:ι) (h0:fproj F ts=some (V i0)) (hH:H=HH i0)
  (round:∀ i,AW P G c (athen (fun F' H'=>∃ i',fproj F' ts=some (V i')∧H'=HH i'∧μ i' < μ i) Q) (ts.zip (V i)) (HH i)):AW P G (.loop c) Q F H:=by
 intro a w ⟨β,hs⟩
 refine wpIn_loop_ghost (fun n a w=>∃ i,μ i=n∧St G (ts.zip (V i)) (HH i) a w) (μ i0) ⟨i0,rfl,β,by subst hH;exact hs.proj h0⟩ ?_
 rintro n a w ⟨i,hi,hst⟩
 refine wpIn_mono (round i a w hst) ?_
 intro e a' w' he
 cases e with
 | normal =>
  obtain ⟨F',H',⟨i',h1,h2,h3⟩,β',hs'⟩:=he
  exact ⟨μ i',by omega,i',rfl,β',by subst h2;exact hs'.proj h1⟩
 | exit id=>exact he
 | ret=>exact he
 | panic ch=>exact he
 | goto l=>exact he.elim
 | outgrown=>exact he.elim
end
end Go.AL
namespace Go.AL
open Go
inductive ARes where
 | ret (v:AVal)
 | pan (v:AVal)
abbrev Eff:=ARes→List AObj→Prop
def Came (ext:Nat→Prop) (w:World) (β:List Ent) (res:Eff) (r:AVal→ARes) (u:Value) (w':World):Prop :=
 ∃ v H' β',res (r v) H'∧Rel (ctx ext w' β') v u∧Inv ext w' H' β'∧Step w β w' β'
def Ended (ext:Nat→Prop) (w:World) (β:List Ent) (res:Eff):Ending→World→Prop
 | .returned u,w'=>Came ext w β res .ret u w'
 | .panicked ch,w'=>∃ u,ch=[{ v:=u,recovered:=false }]∧Came ext w β res .pan u w'
 | .outgrown,_=>False
def Upon (P:Program) (ext:Nat→Prop) (w:World) (β:List Ent) (res:Eff):Result Next→Prop
 | .ok (.value u) w'=>Came ext w β res .ret u w'
 | .ok .skip w'=>Came ext w β res .ret undef w'
 | .ok (.enter f args) w'=>Calls P f args w' (Ended ext w β res)
 | .ok (.round l f tmps assign body) w'=>RoundIn Fence.wide 0 P l f tmps assign body w' (Ended ext w β res)
 | .halt (.panic u) w'=>Came ext w β res .pan u w'
 | _=>False
def OpSem (P:Program) (o:Oper) (F:Fr) (H:List AObj) (res:Eff):Prop :=
 ∀ ext w β (ρ:Operand→Value),Inv ext w H β→(∀ b,ext b→b < w.heap.size)→(∀ v,ρ (.const v)=v)→(∀ x∈o.op.operands,∀ v,ev F x=some v→Rel (ctx ext w β) v (ρ x)) →
  Upon P ext w β res ((execOp ρ o).run P w)
theorem OpSem.congr {P:Program} {o:Oper} {F F':Fr} {H:List AObj} {res:Eff} (h:OpSem P o F H res) (he:∀ x∈o.op.operands,∀ v,ev F x=some v→ev F' x=some v):OpSem P o F' H res :=
 fun ext w β ρ hI hx hκ hρ=>h ext w β ρ hI hx hκ fun x hm v hv=>hρ x hm v (he x hm v hv)
def wantedA (v:AVal) (want:Bool):Option Bool :=
 match v with
 | .v (.bool x)=>some (x == want)
 | .tup []=>some false
 | _=>none
def guardA (ops:Array Oper) (F:Fr) (o:Oper):Option Bool :=
 match o.guard with
 | none=>some true
 | some (j,want)=>match (ops[j]?).bind (·.dst) with
  | some t=>(fget F t).bind (wantedA · want)
  | none=>some false
theorem guardA_ok {G:Gh} {β:List Ent} {F:Fr} {H:List AObj} {a:Act} {w:World} (h:StB G β F H a w) {ops:Array Oper} {o:Oper} {b:Bool} (hg:guardA ops F o=some b) :
  Region.wanted o (yielded ops a.tmps)=b:=by
 unfold guardA at hg
 unfold Region.wanted
 cases ho:o.guard with
 | none=>rw [ho] at hg;simp at hg;subst hg;rfl
 | some p =>
  obtain ⟨j,want⟩:=p
  rw [ho] at hg
  simp only at hg ⊢
  unfold yielded
  cases hd:(ops[j]?).bind (·.dst) with
  | none=>rw [hd] at hg;simp at hg;subst hg;rfl
  | some t =>
   rw [hd] at hg
   simp only at hg
   cases hf:fget F t with
   | none=>rw [hf] at hg;cases hg
   | some x =>
    rw [hf] at hg
    obtain ⟨u,h1,h2⟩:=h.get t x hf
    simp only [Option.bind_some] at hg ⊢
    rw [h1]
    unfold wantedA at hg
    split at hg
    ·rename_i y
     have:u = .bool y:=h2
     subst this
     simp at hg
     subst hg
     simp
    ·obtain ⟨a,rfl,hr⟩:=h2
     simp at hg
     subst hg
     rfl
    ·cases hg
def AWL (P : Program) (G : Gh) (ops : Array Oper) (Q : APost) : List Oper → Fr → List AObj → Prop
  | [], F, H => Q .normal F H
  | o :: l, F, H => (∀ t, o.dst = some t → t < G.n) ∧
      ((guardA ops F o = some true ∧ ∃ res, OpSem P o F H res ∧ ∀ r H', res r H' → match r with
        | .ret v => AWL P G ops Q l (fput F o.dst v) H'
        | .pan v => Q (.panic v) F H') ∨
       (guardA ops F o = some false ∧ AWL P G ops Q l (fput F o.dst (.tup [])) H))
section
variable {P:Program} {G:Gh} {ops:Array Oper} {Q:APost}
theorem calls_fz {r:Option Nat} {n:Nat} {f:FuncId} {args:Array Value} {w:World} {R:Ending→World→Prop} (h:Calls P f args w R):CallsIn (fz r) n P f args w R :=
 (callsIn_wide (n:=n)).2 h
theorem round_fz {r:Option Nat} {n:Nat} {l:Nat} {f:FuncId} {tmps:Array Value} {assign body:Code} {w:World} {R:Ending→World→Prop} (h:RoundIn Fence.wide n P l f tmps assign body w R) :
  RoundIn (fz r) n P l f tmps assign body w R:=h
theorem semAt_upon {ext:Nat→Prop} {w:World} {β:List Ent} {res:Eff} {ro:Option Nat} {ρ:Operand→Value} {o:Oper} (h:Upon P ext w β res ((execOp ρ o).run P w)) :
  (o.semAt ro ρ).run P w=(execOp ρ o).run P w:=by
 cases ro with
 | none=>rfl
 | some l =>
  cases ho:o.op with
  | defer c =>
   simp only [Oper.semAt,ho,execOp,Sem.run_bind] at h ⊢
   cases hr:(resolve ρ c o.type).run P w with
   | ok d w'=>rw [hr] at h;simp [Result.andThen,Upon] at h
   | halt x w'=>simp [Result.andThen]
  | _=>exact congrArg (fun s=>Sem.run P s w) (Oper.semAt_some l ρ o (by rw [ho];simp))
theorem op_wp {F:Fr} {H:List AObj} {o:Oper} {res:Eff} {a:Act} {w:World} {K:Act→World→Prop} (hd:∀ t,o.dst=some t→t < G.n) (ho:OpSem P o F H res) (hs:St G F H a w)
  (hr:∀ r H',res r H'→match r with
    | .ret v=>∀ a w,St G (fput F o.dst v) H' a w→K a w
    | .pan v=>Q (.panic v) F H'):o.wpIn (fz G.rd) 0 P a w K (lift G Q):=by
 obtain ⟨β,h⟩:=hs
 have h1:=ho G.ext w β a.eval h.inv h.extOk (fun _=>rfl) (fun x _ v hv=>h.ev hv)
 refine ⟨fun _ _=>trivial,?_⟩
 have came:∀ u w',Came G.ext w β res .ret u w'→K (a.put o.dst u) w':=by
  rintro u w' ⟨v,H',β',h2,h3,h4,h5⟩
  exact hr _ _ h2 _ _ ⟨β',(h.world h4 h5).put h3 hd⟩
 have pan:∀ u w',Came G.ext w β res .pan u w'→lift G Q (.panic [{ v:=u,recovered:=false }]) a w':=by
  rintro u w' ⟨v,H',β',h2,h3,h4,h5⟩
  exact ⟨v,F,H',β',u,hr _ _ h2,h.world h4 h5,rfl,h3⟩
 rw [semAt_upon h1]
 generalize (execOp a.eval o).run P w=r at h1
 cases r with
 | ok n w' =>
  cases n<;>simp only [Upon] at h1<;>simp only [Oper.uponIn]
  case value u=>exact came u w' h1
  case skip=>exact came _ w' h1
  case enter f args =>
   refine ⟨fun h=>by simp [fz,Fence.wide] at h,calls_fz (h1.mono fun e w'' he=>?_)⟩
   cases e with
   | returned u=>exact came u w'' he
   | panicked ch=>obtain ⟨u,rfl,hc⟩:=he;exact pan u w'' hc
   | outgrown=>exact he.elim
  case round l f tmps assign body =>
   refine ⟨fun h=>by simp [fz,Fence.wide] at h,RoundIn.mono (round_fz h1) fun e w'' he=>?_⟩
   cases e with
   | returned u=>exact came u w'' he
   | panicked ch=>obtain ⟨u,rfl,hc⟩:=he;exact pan u w'' hc
   | outgrown=>exact he.elim
 | halt x w' =>
  cases x<;>simp only [Upon] at h1<;>simp only [Oper.uponIn]
  case panic u=>exact pan u w' h1
theorem awl_sound:∀ (l:List Oper) (F:Fr) (H:List AObj),AWL P G ops Q l F H→∀ a w,St G F H a w→wpListIn (fz G.rd) 0 P ops (lift G Q) l a w
 | [],F,H,h,a,w,hs=>⟨F,H,h,hs⟩
 | o::l,F,H,⟨hd,h⟩,a,w,hs=>by
  unfold wpListIn
  rcases h with ⟨hg,res,ho,hr⟩|⟨hg,hr⟩
  ·obtain ⟨β,hs'⟩:=id hs
   rw [if_pos (guardA_ok hs' hg)]
   refine op_wp hd ho hs fun r H' hres=>?_
   have:=hr r H' hres
   cases r with
   | ret v=>exact fun a w=>awl_sound l _ H' this a w
   | pan v=>exact this
  ·obtain ⟨β,hs'⟩:=id hs
   rw [if_neg (by rw [guardA_ok hs' hg];simp)]
   exact ⟨fun _ _=>trivial,awl_sound l _ H hr _ _ ⟨β,hs'.undef hd⟩⟩
theorem aw_region {id:Nat} {F:Fr} {H:List AObj} (h:AWL P G ops Q ops.toList F H):AW P G (.region id ops false) Q F H :=
 fun a w hs=>wpIn_region_list (awl_sound _ F H h a w hs)
theorem awl_nil {F:Fr} {H:List AObj} (h:Q .normal F H):AWL P G ops Q [] F H:=h
def dstOk (n:Nat) (d:Option Tmp):Bool:=match d with
 | some t=>Nat.blt t n
 | none=>true
theorem dstOk_ok {n:Nat} {d:Option Tmp} (h:dstOk n d=true):∀ t,d=some t→t < n:=by
 intro t ht;subst ht;simpa [dstOk,Nat.blt_eq] using h
theorem awl_op {F:Fr} {H H':List AObj} {o:Oper} {l:List Oper} {v:AVal} (hd:dstOk G.n o.dst=true) (hg:guardA ops F o=some true) (ho:OpSem P o F H (fun r H1=>r = .ret v∧H1=H'))
  (h:AWL P G ops Q l (fput F o.dst v) H'):AWL P G ops Q (o::l) F H :=
 ⟨dstOk_ok hd,.inl ⟨hg,_,ho,fun r H1 ⟨h1,h2⟩=>by subst h1;subst h2;exact h⟩⟩
theorem awl_no {F:Fr} {H:List AObj} {o:Oper} {l:List Oper} (hd:dstOk G.n o.dst=true) (hg:guardA ops F o=some false)
  (h:AWL P G ops Q l (fput F o.dst (.tup [])) H):AWL P G ops Q (o::l) F H :=
 ⟨dstOk_ok hd,.inr ⟨hg,h⟩⟩
end
inductive K where
 | p|r|s|x|m
 | y (i j:Nat)
 | w (i j:Nat)
 | a
 deriving DecidableEq
def K.apart:K→K→Bool
 | .p,_|_,.p | .r,.r | .r,.s | .s,.r | .r,.x | .s,.s=>true
 | .y _ _,.y _ _ | .y _ _,.r | .r,.y _ _ | .y _ _,.s | .s,.y _ _ | .y _ _,.x=>true
 | .y i j,.w k l=>Nat.beq i k&&Nat.beq j l
 | .w _ _,.a | .r,.a | .y _ _,.a=>true
 | _,_=>false
def Boxes (H H':List AObj):Prop:=∀ (j:Nat) (t:TypeId) (cs:List AVal),H[j]? = some (.box t cs)→H'[j]? = some (.box t cs)
def BoxBut (n m:Nat) (H H':List AObj):Prop:=∀ (j:Nat) (t:TypeId) (cs:List AVal),(j < n∨m≤j)→H[j]? = some (.box t cs)→H'[j]? = some (.box t cs)
theorem Boxes.but {n m:Nat} {H H':List AObj} (h:Boxes H H'):BoxBut n m H H':=fun j t cs _ hj=>h j t cs hj
theorem BoxBut.trans {n m:Nat} {H H' H2:List AObj} (h:BoxBut n m H H') (h':BoxBut n m H' H2):BoxBut n m H H2:=fun j t cs hn hj=>h' j t cs hn (h j t cs hn hj)
abbrev one (v:AVal) (H:List AObj):Eff:=fun r H'=>r = .ret v∧H'=H
def DSem (P:Program) (k:K) (o:Oper) (F:Fr) (H:List AObj) (v:AVal) (H1:List AObj):Prop :=
 match k with
 | .p=>H1=H∧∀ H',OpSem P o F H' (one v H')
 | .r=>H1=H∧∀ H',Boxes H H'→OpSem P o F H' (one v H')
 | .s=>H1=H∧OpSem P o F H (one v H)
 | .x=>Boxes H H1∧OpSem P o F H (one v H1)
 | .m=>OpSem P o F H (one v H1)
 | .y i j=>H1=H∧∀ H',BoxBut i j H H'→OpSem P o F H' (one v H')
 | .w i j=>BoxBut i j H H1∧H1.length=H.length∧∀ T,OpSem P o F (H++T) (one v (H1++T))
 | .a=>∃ T,H1=H++T∧∀ H':List AObj,H'.length=H.length→OpSem P o F H' (one v (H'++T))
theorem Boxes.refl (H:List AObj):Boxes H H:=fun _ _ _ h=>h
theorem DSem.op {P:Program} {k:K} {o:Oper} {F:Fr} {H H1:List AObj} {v:AVal} (h:DSem P k o F H v H1):OpSem P o F H (one v H1):=by
 cases k with
 | p=>obtain ⟨rfl,h⟩:=h;exact h _
 | r=>obtain ⟨rfl,h⟩:=h;exact h _ (Boxes.refl _)
 | s=>obtain ⟨rfl,h⟩:=h;exact h
 | x=>exact h.2
 | m=>exact h
 | y i j=>obtain ⟨rfl,h⟩:=h;exact h _ (Boxes.refl _).but
 | w i j=>have:=h.2.2 [];rwa [List.append_nil,List.append_nil] at this
 | a=>obtain ⟨T,rfl,h⟩:=h;exact h _ rfl
theorem DSem.boxes {P:Program} {k:K} {o:Oper} {F:Fr} {H H1:List AObj} {v:AVal} (h:DSem P k o F H v H1) (hk:k ≠ .m) (hk2:∀ i j,k ≠ .w i j):Boxes H H1:=by
 cases k with
 | p=>obtain ⟨rfl,h⟩:=h;exact Boxes.refl _
 | r=>obtain ⟨rfl,h⟩:=h;exact Boxes.refl _
 | s=>obtain ⟨rfl,h⟩:=h;exact Boxes.refl _
 | x=>exact h.1
 | m=>exact absurd rfl hk
 | y i j=>obtain ⟨rfl,h⟩:=h;exact Boxes.refl _
 | w i j=>exact absurd rfl (hk2 i j)
 | a =>
  obtain ⟨T,rfl,h⟩:=h
  intro j t cs hj
  rw [List.getElem?_append_left (List.getElem?_eq_some_iff.1 hj).1];exact hj
theorem DSem.congr {P:Program} {k:K} {o:Oper} {F F':Fr} {H H1:List AObj} {v:AVal} (h:DSem P k o F H v H1) (he:∀ x∈o.op.operands,∀ v,ev F x=some v→ev F' x=some v):DSem P k o F' H v H1:=by
 cases k with
 | p=>obtain ⟨rfl,h⟩:=h;exact ⟨rfl,fun H'=>(h H').congr he⟩
 | r=>obtain ⟨rfl,h⟩:=h;exact ⟨rfl,fun H' hb=>(h H' hb).congr he⟩
 | s=>obtain ⟨rfl,h⟩:=h;exact ⟨rfl,h.congr he⟩
 | x=>exact ⟨h.1,h.2.congr he⟩
 | m=>exact OpSem.congr h he
 | y i j=>obtain ⟨rfl,h⟩:=h;exact ⟨rfl,fun H' hb=>(h H' hb).congr he⟩
 | w i j=>exact ⟨h.1,h.2.1,fun T=>(h.2.2 T).congr he⟩
 | a=>obtain ⟨T,rfl,h⟩:=h;exact ⟨T,rfl,fun H' hl=>(h H' hl).congr he⟩
def DStep (P:Program) (ops:Array Oper) (k:K) (o:Oper) (F:Fr) (H:List AObj) (v:AVal) (H1:List AObj):Prop :=
 (guardA ops F o=some true∧DSem P k o F H v H1)∨(guardA ops F o=some false∧v = .tup []∧H1=H)
def AWD (P:Program) (G:Gh) (ops:Array Oper) (Q:Fr→List AObj→Prop):List (Nat × Oper × K)→Fr→List AObj→Prop
 | [],F,H=>Q F H
 | (_,o,k)::l,F,H=>(∀ t,o.dst=some t→t < G.n)∧∃ v H1,DStep P ops k o F H v H1∧AWD P G ops Q l (fput F o.dst v) H1
def FrEq (F F':Fr):Prop:=∀ t,fget F t=fget F' t
theorem FrEq.put {F F':Fr} (h:FrEq F F') (d:Option Tmp) (v:AVal):FrEq (fput F d v) (fput F' d v):=by
 intro t
 cases d with
 | none=>exact h t
 | some d=>simp only [fput,fget,h t]
theorem FrEq.swap (F:Fr) {d e:Option Tmp} (v u:AVal) (h:∀ t,d=some t→e≠some t):FrEq (fput (fput F d v) e u) (fput (fput F e u) d v):=by
 intro t
 cases d with
 | none=>rfl
 | some d =>
  cases e with
  | none=>rfl
  | some e =>
   have hne:d≠e:=fun he=>h d rfl (he ▸ rfl)
   simp only [fput,fget]
   cases h1:Nat.beq e t<;>cases h2:Nat.beq d t<;>simp
   exact absurd ((Nat.eq_of_beq_eq_true h2).trans (Nat.eq_of_beq_eq_true h1).symm) hne
theorem guardA_congr {F F':Fr} {ops:Array Oper} {o:Oper} (h:∀ t,t∈o.looksAt ops→fget F t=fget F' t):guardA ops F o=guardA ops F' o:=by
 unfold guardA
 cases hg:o.guard with
 | none=>rfl
 | some p =>
  obtain ⟨j,want⟩:=p
  simp only
  cases hd:(ops[j]?).bind (·.dst) with
  | none=>rfl
  | some t =>
   simp only
   rw [h t (by simp [Oper.looksAt,hg,hd])]
theorem ev_congr {F F':Fr} {ops:Array Oper} {o:Oper} (h:∀ t,t∈o.looksAt ops→fget F t=fget F' t):∀ x∈o.op.operands,ev F x=ev F' x:=by
 intro x hx
 cases x with
 | tmp t=>exact h t (List.mem_append_left _ (List.mem_filterMap.2 ⟨.tmp t,by simpa using hx,rfl⟩))
 | _=>rfl
theorem DStep.congr {P:Program} {k:K} {ops:Array Oper} {o:Oper} {F F':Fr} {H H1:List AObj} {v:AVal} (h:DStep P ops k o F H v H1) (he:∀ t,t∈o.looksAt ops→fget F t=fget F' t):DStep P ops k o F' H v H1:=by
 unfold DStep
 rw [←guardA_congr he]
 rcases h with ⟨h1,h2⟩|h
 ·exact .inl ⟨h1,h2.congr fun x hx v hv=>by rw [←ev_congr he x hx];exact hv⟩
 ·exact .inr h
theorem AWD.congr {P:Program} {G:Gh} {ops:Array Oper} {Q:Fr→List AObj→Prop} (hQ:∀ F F' H,FrEq F F'→Q F H→Q F' H):∀ (l:List (Nat × Oper × K)) (F F':Fr) (H:List AObj),FrEq F F'→AWD P G ops Q l F H→AWD P G ops Q l F' H
 | [],F,F',H,he,h=>hQ F F' H he h
 | (i,o,k)::l,F,F',H,he,⟨hd,v,H1,h1,h2⟩=>⟨hd,v,H1,h1.congr fun t _=>he t,AWD.congr hQ l _ _ H1 (he.put o.dst v) h2⟩
theorem fget_put_ne {F:Fr} {d:Option Tmp} {v:AVal} {t:Nat} (h:d≠some t):fget (fput F d v) t=fget F t:=by
 cases d with
 | none=>rfl
 | some d =>
  have hne:d≠t:=fun he=>h (he ▸ rfl)
  simp only [fput,fget]
  cases hb:Nat.beq d t with
  | false=>rfl
  | true=>exact absurd (Nat.eq_of_beq_eq_true hb) hne
theorem DStep.swap {P:Program} {ops:Array Oper} {ki kj:K} {oi oj:Oper} {F:Fr} {H Hj Hji:List AObj} {vi vj:AVal} (hap:oj.apart ops oi=true) (hk:kj.apart ki=true)
  (hj:DStep P ops kj oj F H vj Hj) (hi:DStep P ops ki oi (fput F oj.dst vj) Hj vi Hji) :
  ∃ Hi,DStep P ops ki oi F H vi Hi∧DStep P ops kj oj (fput F oi.dst vi) Hi vj Hji:=by
 obtain ⟨a1,a2,a3⟩:=Oper.apart_spec hap
 have hi':DStep P ops ki oi F Hj vi Hji:=hi.congr fun t ht=>fget_put_ne fun he=>a1 t he ht
 have hj':∀ v,DStep P ops kj oj (fput F oi.dst v) H vj Hj:=fun v=>hj.congr fun t ht=>(fget_put_ne fun he=>a3 t he ht).symm
 -- the unwanted ones change nothing
 have same:∀ {k:K} {o:Oper} {F:Fr} {H H1 H2:List AObj} {v:AVal},(k = .p∨(k = .r∧Boxes H H2)∨∃ i j,k = .y i j∧BoxBut i j H H2)→DStep P ops k o F H v H1→H1=H∧DStep P ops k o F H2 v H2:=by
  intro k o F H H1 H2 v hk h
  rcases h with ⟨h1,h2⟩|⟨h1,h2,h3⟩
  ·rcases hk with rfl|⟨rfl,hb⟩|⟨i,j,rfl,hb⟩
   ·exact ⟨h2.1,.inl ⟨h1,rfl,h2.2⟩⟩
   ·exact ⟨h2.1,.inl ⟨h1,rfl,fun H' hb'=>h2.2 H' fun j t cs hj=>hb' j t cs (hb j t cs hj)⟩⟩
   ·exact ⟨h2.1,.inl ⟨h1,rfl,fun H' hb'=>h2.2 H' (hb.trans hb')⟩⟩
  ·exact ⟨h3,.inr ⟨h1,h2,rfl⟩⟩
 have keep:∀ {k:K} {o:Oper} {F:Fr} {H H1:List AObj} {v:AVal},k ≠ .m→(∀ i j,k ≠ .w i j)→DStep P ops k o F H v H1→Boxes H H1:=by
  intro k o F H H1 v hk hk2 h
  rcases h with ⟨h1,h2⟩|⟨h1,h2,h3⟩
  ·exact h2.boxes hk hk2
  ·subst h3;exact Boxes.refl _
 have keepW:∀ {n m:Nat} {o:Oper} {F:Fr} {H H1:List AObj} {v:AVal},DStep P ops (.w n m) o F H v H1→BoxBut n m H H1:=by
  intro n m o F H H1 v h
  rcases h with ⟨h1,h2⟩|⟨h1,h2,h3⟩
  ·exact h2.1
  ·subst h3;exact (Boxes.refl _).but
 have fixed:∀ {k:K} {o:Oper} {F:Fr} {H H1:List AObj} {v:AVal},(k = .p∨k = .r∨k = .s∨∃ i j,k = .y i j)→DStep P ops k o F H v H1→H1=H:=by
  intro k o F H H1 v hk h
  rcases h with ⟨h1,h2⟩|⟨h1,h2,h3⟩
  ·rcases hk with rfl|rfl|rfl|⟨i,j,rfl⟩<;>exact h2.1
  ·exact h3
 -- cases on who hangs on nothing
 by_cases hjp:kj = .p
 ·obtain ⟨rfl,_⟩:=same (H2:=H) (.inl hjp) hj
  exact ⟨Hji,hi',(same (H2:=Hji) (.inl hjp) (hj' vi)).2⟩
 by_cases hip:ki = .p
 ·obtain ⟨rfl,_⟩:=same (H2:=Hj) (.inl hip) hi'
  exact ⟨H,(same (H2:=H) (.inl hip) hi').2,hj' vi⟩
 by_cases hjr:kj = .r
 ·have hH:=fixed (.inr (.inl hjr)) hj
  subst hH
  have hm:ki ≠ .m:=fun e=>by subst e;subst hjr;cases hk
  have hm2:∀ i j,ki ≠ .w i j:=fun i j e=>by subst e;subst hjr;cases hk
  exact ⟨Hji,hi',(same (H2:=Hji) (.inr (.inl ⟨hjr,keep hm hm2 hi'⟩)) (hj' vi)).2⟩
 by_cases hjy:∃ n m,kj = .y n m
 ·obtain ⟨n,m,rfl⟩:=hjy
  have hH:=fixed (.inr (.inr (.inr ⟨n,m,rfl⟩))) hj
  subst hH
  have hb:BoxBut n m Hj Hji:=by
   cases ki with
   | p=>exact absurd rfl hip
   | r=>exact (keep (by intro e;cases e) (by intro i j e;cases e) hi').but
   | s=>exact (keep (by intro e;cases e) (by intro i j e;cases e) hi').but
   | x=>exact (keep (by intro e;cases e) (by intro i j e;cases e) hi').but
   | m=>cases hk
   | y i j=>exact (keep (by intro e;cases e) (by intro i j e;cases e) hi').but
   | w i j =>
    have hk':(Nat.beq n i&&Nat.beq m j)=true:=hk
    rw [Bool.and_eq_true] at hk'
    have e:n=i:=Nat.eq_of_beq_eq_true hk'.1
    have e2:m=j:=Nat.eq_of_beq_eq_true hk'.2
    subst e
    subst e2
    exact keepW hi'
   | a=>exact (keep (by intro e;cases e) (by intro i j e;cases e) hi').but
  exact ⟨Hji,hi',(same (H2:=Hji) (.inr (.inr ⟨n,m,rfl,hb⟩)) (hj' vi)).2⟩
 by_cases hjw:∃ n m,kj = .w n m
 ·obtain ⟨n,m,rfl⟩:=hjw
  have hia:ki = .a:=by cases ki<;>first|rfl|exact absurd rfl hip|cases hk
  subst hia
  rcases hi' with ⟨f1,T,rfl,f2⟩|⟨f1,f2,f3⟩
  ·rcases hj' vi with ⟨g1,b1,b2,b3⟩|⟨g1,g2,g3⟩
   ·refine ⟨H++T,.inl ⟨f1,T,rfl,fun H' hl=>f2 H' (hl.trans b2.symm)⟩,.inl ⟨g1,?_,by simp [b2],fun T'=>?_⟩⟩
    ·intro k t cs hk1 hk2
     rcases Nat.lt_or_ge k H.length with hlt|hge
     ·rw [List.getElem?_append_left hlt] at hk2
      rw [List.getElem?_append_left (by omega)]
      exact b1 k t cs hk1 hk2
     ·rw [List.getElem?_append_right hge] at hk2
      rw [List.getElem?_append_right (by omega),b2]
      exact hk2
    ·rw [List.append_assoc,List.append_assoc];exact b3 (T++T')
   ·subst g3
    exact ⟨_,.inl ⟨f1,T,rfl,f2⟩,.inr ⟨g1,g2,rfl⟩⟩
  ·subst f3
   exact ⟨H,.inr ⟨f1,f2,rfl⟩,hj' vi⟩
 have hjs:kj = .s:=by
  cases kj<;>first
   | exact absurd ⟨_,_,rfl⟩ hjw
   | rfl
   | exact absurd rfl hjp
   | exact absurd rfl hjr
   | exact absurd ⟨_,_,rfl⟩ hjy
   | (cases ki<;>first|exact absurd rfl hip|cases hk)
 have his:ki = .r∨ki = .s∨∃ i j,ki = .y i j:=by
  subst hjs
  cases ki<;>first
   | exact .inl rfl
   | exact .inr (.inl rfl)
   | exact .inr (.inr ⟨_,_,rfl⟩)
   | exact absurd rfl hip
   | cases hk
 have h1:=fixed (.inr (.inr (.inl hjs))) hj
 have h2:=fixed (.inr his) hi'
 subst h1;subst h2
 exact ⟨Hji,hi',hj' vi⟩
theorem AWD.take {P:Program} {G:Gh} {ops:Array Oper} {Q:Fr→List AObj→Prop} (hQ:∀ F F' H,FrEq F F'→Q F H→Q F' H) {i:Nat} {oi:Oper} {ki:K} {L2:List (Nat × Oper × K)} :
  ∀ (L1:List (Nat × Oper × K)) (F:Fr) (H:List AObj),(∀ x∈L1,x.2.1.apart ops oi=true∧x.2.2.apart ki=true)→AWD P G ops Q (L1++(i,oi,ki)::L2) F H →
   (∀ t,oi.dst=some t→t < G.n)∧∃ v H1,DStep P ops ki oi F H v H1∧AWD P G ops Q (L1++L2) (fput F oi.dst v) H1
 | [],F,H,_,h=>h
 | (j,oj,kj)::L1,F,H,hL,⟨hd,vj,Hj,hj,h⟩=>by
  obtain ⟨hap,hk⟩:=hL (j,oj,kj) (List.mem_cons_self ..)
  obtain ⟨hd',vi,Hji,hi,h'⟩:=AWD.take hQ L1 _ Hj (fun x hx=>hL x (List.mem_cons_of_mem _ hx)) h
  obtain ⟨Hi,h1,h2⟩:=DStep.swap hap hk hj hi
  refine ⟨hd',vi,Hi,h1,hd,vj,Hji,h2,AWD.congr hQ _ _ _ _ ?_ h'⟩
  obtain ⟨a1,a2,a3⟩:=Oper.apart_spec hap
  exact FrEq.swap F vj vi a2
theorem St.eq {G:Gh} {F F':Fr} {H:List AObj} {a:Act} {w:World} (he:FrEq F F') (h:St G F H a w):St G F' H a w:=by
 obtain ⟨β,h⟩:=h
 exact ⟨β,h.inv,h.step,h.extOk,h.size,h.defers,fun t v ht=>h.get t v (by rw [he t];exact ht)⟩
def Left (n:Nat) (L:List (Nat × Oper × K)) (listed:Array Bool):Prop:=listed.size=n∧∀ i,i < n→(listed.getD i true=false↔∃ x∈L,x.1=i)
theorem getD_set_self {listed:Array Bool} {i:Nat} (h:i < listed.size):(listed.setIfInBounds i true).getD i true=true:=by
 simp [h]
theorem awd_any {P:Program} {G:Gh} {ops:Array Oper} {Q:APost} (hQ:∀ F F' H,FrEq F F'→Q .normal F H→Q .normal F' H) :
  ∀ (m:Nat) (L:List (Nat × Oper × K)) (listed:Array Bool) (F:Fr) (H:List AObj),L.length=m→Left ops.size L listed →
   (∀ x∈L,ops[x.1]? = some x.2.1)→(L.map (·.1)).Nodup →
   (∀ L1 x L2,L=L1++x::L2→(∀ y∈L2,y.1≠x.1→∀ e∈x.2.1.after,Region.binds .any e=true→e.on≠y.1)∧(∀ e∈x.2.1.after,Region.binds .any e=true→e.on < ops.size∧e.on≠x.1) ∧
    ∀ y∈L1,(∃ e∈x.2.1.after,Region.binds .any e=true∧e.on=y.1)∨(y.2.1.apart ops x.2.1=true∧y.2.2.apart x.2.2=true)) →
   AWD P G ops (Q .normal) L F H→∀ a w,St G F H a w→wpAnyIn (fz G.rd) 0 P .any ops (lift G Q) m listed a w
 | 0,L,listed,F,H,hm,hL,hops,hnd,hc,h,a,w,hs=>by
  obtain rfl:=List.length_eq_zero_iff.1 hm
  refine ⟨?_,F,H,h,hs⟩
  cases hr:Region.ready .any ops listed with
  | nil=>rfl
  | cons i r =>
   have:i∈Region.ready .any ops listed:=by rw [hr];exact List.mem_cons_self ..
   obtain ⟨h0,o,ho,_⟩:=mem_ready.1 this
   obtain ⟨x,hx,_⟩:=(hL.2 i (Array.getElem?_eq_some_iff.1 ho).1).1 h0
   cases hx
 | m+1,L,listed,F,H,hm,hL,hops,hnd,hc,h,a,w,hs=>by
  refine ⟨fun hr=>?_,fun i hi=>?_⟩
  ·-- the first of the walk is ready
   exfalso
   cases L with
   | nil=>simp at hm
   | cons x L =>
    obtain ⟨h1,h2,_⟩:=hc [] x L rfl
    have hx:=hops x (List.mem_cons_self ..)
    have hlt:=(Array.getElem?_eq_some_iff.1 hx).1
    have:x.1∈Region.ready .any ops listed:=by
     refine mem_ready.2 ⟨(hL.2 x.1 hlt).2 ⟨x,List.mem_cons_self ..,rfl⟩,x.2.1,hx,fun e he hb=>?_⟩
     obtain ⟨h3,h4⟩:=h2 e he hb
     have h5:¬(listed.getD e.on true=false):=fun hf=>by
      obtain ⟨y,hy,hye⟩:=(hL.2 e.on h3).1 hf
      cases List.mem_cons.1 hy with
      | inl hxy=>subst hxy;exact h4 hye.symm
      | inr hm'=>exact h1 y hm' (fun hyx=>h4 (hye ▸ hyx)) e he hb hye.symm
     have hsz:e.on < listed.size:=by rw [hL.1];exact h3
     simp only [Array.getD_eq_getD_getElem?,Array.getElem?_eq_getElem hsz,Option.getD_some] at h5 ⊢
     simpa using h5
    rw [hr] at this
    cases this
  ·obtain ⟨h0,o,ho,hall⟩:=mem_ready.1 hi
   have hlt:=(Array.getElem?_eq_some_iff.1 ho).1
   obtain ⟨x,hx,hxi⟩:=(hL.2 i hlt).1 h0
   subst hxi
   have hox:=hops x hx
   rw [ho] at hox
   simp at hox
   obtain ⟨L1,L2,hsplit⟩:=List.append_of_mem hx
   obtain ⟨h1,h2,h3⟩:=hc L1 x L2 hsplit
   obtain ⟨xi,xo,xk⟩:=x
   simp only at hox hsplit h1 h2 h3 ho hall hlt h0 hi hx
   subst hox
   have hun:∀ y∈L1,listed.getD y.1 true=false:=fun y hy=>by
    have hyL:y∈L:=by rw [hsplit];exact List.mem_append_left _ hy
    exact (hL.2 y.1 (Array.getElem?_eq_some_iff.1 (hops y hyL)).1).2 ⟨y,hyL,rfl⟩
   have hap:∀ y∈L1,y.2.1.apart ops o=true∧y.2.2.apart xk=true:=fun y hy=>by
    rcases h3 y hy with ⟨e,he,hb,hey⟩|h4
    ·exfalso
     have h5:=hall e he hb
     have h6:=hun y hy
     rw [hey] at h5
     have hsz:y.1 < listed.size:=by rw [hL.1,←hey];exact (h2 e he hb).1
     simp only [Array.getD_eq_getD_getElem?,Array.getElem?_eq_getElem hsz,Option.getD_some] at h5 h6
     rw [h5] at h6;cases h6
    ·exact h4
   rw [hsplit] at h
   obtain ⟨hd,v,H1,hst,hrest⟩:=AWD.take hQ L1 F H hap h
   have hnd':((L1++L2).map (·.1)).Nodup∧∀ y∈L1++L2,y.1≠xi:=by
    rw [hsplit] at hnd
    simp only [List.map_append,List.map_cons] at hnd ⊢
    rw [List.nodup_append] at hnd ⊢
    obtain ⟨n1,n2,n3⟩:=hnd
    rw [List.nodup_cons] at n2
    refine ⟨⟨n1,n2.2,fun a ha b hb=>n3 a ha b (List.mem_cons_of_mem _ hb)⟩,fun y hy hyx=>?_⟩
    cases List.mem_append.1 hy with
    | inl hy=>exact n3 y.1 (List.mem_map.2 ⟨y,hy,rfl⟩) xi (List.mem_cons_self ..) hyx
    | inr hy=>exact n2.1 (List.mem_map.2 ⟨y,hy,hyx⟩)
   have hleft:Left ops.size (L1++L2) (listed.setIfInBounds xi true):=by
    refine ⟨by simp [hL.1],fun j hj=>?_⟩
    by_cases hji:xi=j
    ·subst hji
     rw [getD_set_self (by rw [hL.1];exact hj)]
     constructor
     ·intro h;cases h
     ·rintro ⟨y,hy,hyx⟩;exact absurd hyx (hnd'.2 y hy)
    ·rw [getD_set_ne true hji,hL.2 j hj,hsplit]
     constructor
     ·rintro ⟨y,hy,hyj⟩
      rcases List.mem_append.1 hy with h4|h4
      ·exact ⟨y,List.mem_append_left _ h4,hyj⟩
      ·cases List.mem_cons.1 h4 with
       | inl h5=>subst h5;exact absurd hyj hji
       | inr h5=>exact ⟨y,List.mem_append_right _ h5,hyj⟩
     ·rintro ⟨y,hy,hyj⟩
      rcases List.mem_append.1 hy with h4|h4
      ·exact ⟨y,List.mem_append_left _ h4,hyj⟩
      ·exact ⟨y,List.mem_append_right _ (List.mem_cons_of_mem _ h4),hyj⟩
   have hsub:∀ y∈L1++L2,y∈L:=fun y hy=>by
    rw [hsplit]
    rcases List.mem_append.1 hy with h4|h4
    ·exact List.mem_append_left _ h4
    ·exact List.mem_append_right _ (List.mem_cons_of_mem _ h4)
   have hc':∀ M1 y M2,L1++L2=M1++y::M2→(∀ z∈M2,z.1≠y.1→∀ e∈y.2.1.after,Region.binds .any e=true→e.on≠z.1)∧(∀ e∈y.2.1.after,Region.binds .any e=true→e.on < ops.size∧e.on≠y.1) ∧
     ∀ z∈M1,(∃ e∈y.2.1.after,Region.binds .any e=true∧e.on=z.1)∨(z.2.1.apart ops y.2.1=true∧z.2.2.apart y.2.2=true):=by
    intro M1 y M2 hM
    rcases List.append_eq_append_iff.1 hM with ⟨asL,ha1,ha2⟩|⟨bs,hb1,hb2⟩
    ·-- M1=L1++asL,L2=asL++y::M2
     obtain ⟨c1,c2,c3⟩:=hc (L1++(xi,o,xk)::asL) y M2 (by rw [hsplit,ha2];simp)
     refine ⟨c1,c2,fun z hz=>c3 z ?_⟩
     rw [ha1] at hz
     rcases List.mem_append.1 hz with h4|h4
     ·exact List.mem_append_left _ h4
     ·exact List.mem_append_right _ (List.mem_cons_of_mem _ h4)
    ·cases bs with
     | nil =>
      simp at hb1 hb2
      obtain ⟨c1,c2,c3⟩:=hc (L1++[(xi,o,xk)]) y M2 (by rw [hsplit,←hb2];simp)
      refine ⟨c1,c2,fun z hz=>c3 z ?_⟩
      rw [←hb1] at hz
      exact List.mem_append_left _ hz
     | cons b bs =>
      simp at hb2
      obtain ⟨hb2,hb3⟩:=hb2
      subst hb2
      obtain ⟨c1,c2,c3⟩:=hc M1 y (bs++(xi,o,xk)::L2) (by rw [hsplit,hb1];simp)
      refine ⟨fun z hz=>c1 z ?_,c2,c3⟩
      rw [hb3] at hz
      rcases List.mem_append.1 hz with h4|h4
      ·exact List.mem_append_left _ h4
      ·exact List.mem_append_right _ (List.mem_cons_of_mem _ h4)
   have next:∀ a w,St G (fput F o.dst v) H1 a w→wpAnyIn (fz G.rd) 0 P .any ops (lift G Q) m (listed.setIfInBounds xi true) a w :=
    awd_any hQ m (L1++L2) _ _ H1 (by rw [hsplit] at hm;simp at hm ⊢;omega) hleft (fun y hy=>hops y (hsub y hy)) hnd'.1 hc' hrest
   unfold wpOpIn
   simp only [ho]
   obtain ⟨β,hs'⟩:=id hs
   rcases hst with ⟨hg,hsem⟩|⟨hg,rfl,rfl⟩
   ·rw [if_pos (guardA_ok hs' hg)]
    exact op_wp hd hsem.op hs fun r H' ⟨h4,h5⟩=>by subst h4;subst h5;exact next
   ·rw [if_neg (by rw [guardA_ok hs' hg];simp)]
    exact ⟨fun _ _=>trivial,next _ _ ⟨β,hs'.undef hd⟩⟩
end Go.AL
namespace Go.AL
open Go
structure TyRow where
 t:Nat
 d:TypeDesc
 z:Value
 size:Nat
 bytes:Nat
def TyRow.ok (P:Program) (r:TyRow):Prop:=P.underlying r.t=some r.d∧(P.info? r.t).map (fun i=>(i.zero,i.size,i.bytes))=some (some r.z,r.size,r.bytes)
def TyOk (P:Program):List TyRow→Prop
 | []=>True
 | r::rs=>r.ok P∧TyOk P rs
class TyTab (P:Program) where
 tab:List TyRow
 ok:TyOk P tab
 mixed:P.follows .mixedOrders=true
def tfind:List TyRow→Nat→Option TyRow
 | [],_=>none
 | r::rs,t=>cond (Nat.beq r.t t) (some r) (tfind rs t)
theorem tfind_ok {P:Program}:∀ {rs:List TyRow},TyOk P rs→∀ {t:Nat} {r:TyRow},tfind rs t=some r→r.t=t∧r.ok P
 | [],_,t,r,h=>by cases h
 | x::xs,hx,t,r,h=>by
  simp only [tfind] at h
  cases hb:Nat.beq x.t t with
  | true=>rw [hb] at h;simp at h;subst h;exact ⟨Nat.eq_of_beq_eq_true hb,hx.1⟩
  | false=>rw [hb] at h;simp at h;exact tfind_ok hx.2 h
section
variable {P:Program} [T:TyTab P]
theorem ty_und {t:Nat} {r:TyRow} (h:tfind T.tab t=some r):P.underlying t=some r.d:=by
 obtain ⟨rfl,h1⟩:=tfind_ok T.ok h;exact h1.1
theorem ty_info {t:Nat} {r:TyRow} (h:tfind T.tab t=some r):∃ i,P.info? t=some i∧i.zero=some r.z∧i.size=r.size∧i.bytes=r.bytes:=by
 obtain ⟨rfl,h1⟩:=tfind_ok T.ok h
 have h2:=h1.2
 cases hi:P.info? r.t with
 | none=>rw [hi] at h2;cases h2
 | some i=>rw [hi] at h2;simp at h2;exact ⟨i,rfl,h2⟩
theorem run_und {t:Nat} {r:TyRow} (h:tfind T.tab t=some r) (w:World):(underlying t).run P w = .ok r.d w:=run_underlying (ty_und h) w
theorem run_size {t:Nat} {r:TyRow} (h:tfind T.tab t=some r) (w:World):(sizeOf t).run P w = .ok r.size w:=by
 obtain ⟨i,h1,h2,h3,h4⟩:=ty_info h
 simp [sizeOf,typeInfo,h1,h3]
theorem run_zero {t:Nat} {r:TyRow} (h:tfind T.tab t=some r) (w:World):(zeroValue t).run P w = .ok r.z w:=by
 obtain ⟨i,h1,h2,h3,h4⟩:=ty_info h
 simp [zeroValue,typeInfo,h1,h2]
def aggB:TypeDesc→Bool
 | .struct _ | .array _ _=>true
 | _=>false
theorem run_agg {t:Nat} {r:TyRow} (h:tfind T.tab t=some r) (w:World):(isAgg t).run P w = .ok (aggB r.d) w:=by
 unfold isAgg
 simp only [Sem.run_bind,run_und h,Result.andThen_ok]
 cases r.d<;>rfl
def takeA (r:TyRow) (cs:List AVal) (off:Nat):Option AVal :=
 cond (aggB r.d) (cond (Nat.ble (off+r.size) cs.length) (some (.agg ((cs.drop off).take r.size))) none) cs[off]?
theorem takeA_part {c:Ctx} {t:Nat} {r:TyRow} (h:tfind T.tab t=some r) {cs:List AVal} {us:Array Value} (hr:RelL c cs us.toList) {off:Nat} {v:AVal} (hv:takeA r cs off=some v) (w:World) :
  ∃ u,(part t us off).run P w = .ok u w∧Rel c v u:=by
 unfold part
 simp only [Sem.run_bind,run_agg h,Result.andThen_ok]
 unfold takeA at hv
 cases ha:aggB r.d with
 | true =>
  rw [ha] at hv
  simp only [cond_true,if_true] at hv ⊢
  cases hb:Nat.ble (off+r.size) cs.length with
  | false=>rw [hb] at hv;cases hv
  | true =>
   rw [hb] at hv;simp at hv;subst hv
   refine ⟨.agg (us.extract off (off+r.size)),by simp only [Sem.run_bind,run_size h,Result.andThen_ok,Sem.run_pure],?_⟩
   refine ⟨_,rfl,?_⟩
   have:=(hr.drop off).take r.size
   have he:(us.extract off (off+r.size)).toList=(us.toList.drop off).take r.size:=by
    rw [Array.toList_extract,List.extract_eq_take_drop,Nat.add_sub_cancel_left]
   rw [he];exact this
 | false =>
  rw [ha] at hv
  simp only [cond_false,Bool.false_eq_true,if_false] at hv ⊢
  obtain ⟨u,h1,h2⟩:=hr.get hv
  have h3:us[off]? = some u:=by simpa using h1
  exact ⟨u,by rw [h3];rfl,h2⟩
theorem takeA_load {c:Ctx} {t:Nat} {r:TyRow} (h:tfind T.tab t=some r) {cs:List AVal} {us:List Value} (hr:RelL c cs us) {off:Nat} {v:AVal} (hv:takeA r cs off=some v) {w:World} {b o:Nat}
  (hc:∀ i u,us[i]? = some u→w.cell? ⟨b,o+i,none⟩=some u):∃ u,(loadVar t ⟨b,o+off,none⟩).run P w = .ok u w∧Rel c v u:=by
 unfold loadVar
 simp only [Sem.run_bind,run_agg h,Result.andThen_ok]
 have hadd:∀ i,(⟨b,o+off,none⟩:Addr).add i=⟨b,o+off+i,none⟩:=fun i=>by
  unfold Addr.add
  split
  ·subst_vars;rfl
  ·rfl
 unfold takeA at hv
 cases ha:aggB r.d with
 | true =>
  rw [ha] at hv
  simp only [cond_true,if_true] at hv ⊢
  cases hb:Nat.ble (off+r.size) cs.length with
  | false=>rw [hb] at hv;cases hv
  | true =>
   rw [hb] at hv;simp at hv;subst hv
   have hlen:((us.drop off).take r.size).length=r.size:=by
    have:=hr.length
    have:=Nat.le_of_ble_eq_true hb
    simp;omega
   have hl:(loadCells ⟨b,o+off,none⟩ r.size).run P w = .ok ((us.drop off).take r.size).toArray w:=by
    have h1:=run_loadCells_list (P:=P) w ⟨b,o+off,none⟩ ((us.drop off).take r.size) (fun j v hj=>by
     rw [hadd,Nat.add_assoc]
     refine hc (off+j) v ?_
     rw [List.getElem?_take] at hj
     split at hj
     ·simpa using hj
     ·cases hj)
    rw [hlen] at h1
    exact h1
   refine ⟨.agg ((us.drop off).take r.size).toArray,by simp only [Sem.run_bind,run_size h,Result.andThen_ok,hl,Sem.run_pure],?_⟩
   exact ⟨_,rfl,by simpa using (hr.drop off).take r.size⟩
 | false =>
  rw [ha] at hv
  simp only [cond_false,Bool.false_eq_true,if_false] at hv ⊢
  obtain ⟨u,h1,h2⟩:=hr.get hv
  exact ⟨u,by rw [run_load,hc off u h1],h2⟩
def evs (F:Fr):List Operand→Option (List AVal)
 | []=>some []
 | x::xs=>match ev F x,evs F xs with
  | some v,some vs=>some (v::vs)
  | _,_=>none
theorem evs_rel {c:Ctx} {F:Fr} {ρ:Operand→Value}:∀ {xs:List Operand} {vs:List AVal},(∀ x∈xs,∀ v,ev F x=some v→Rel c v (ρ x))→evs F xs=some vs→RelL c vs (xs.map ρ)
 | [],vs,_,h=>by simp [evs] at h;subst h;rfl
 | x::xs,vs,hρ,h=>by
  simp only [evs] at h
  cases h1:ev F x with
  | none=>rw [h1] at h;cases h
  | some v =>
   cases h2:evs F xs with
   | none=>rw [h1,h2] at h;cases h
   | some us =>
    rw [h1,h2] at h;simp at h;subst h
    exact ⟨ρ x,xs.map ρ,rfl,hρ x (List.mem_cons_self ..) v h1,evs_rel (fun y hy=>hρ y (List.mem_cons_of_mem _ hy)) h2⟩
def bitsI (op:BinOp) (k:IntKind) (a b:Int):Int :=
 match op with
 | .and=>k.wrap (BitVec.ofInt k.bits a &&& BitVec.ofInt k.bits b).toNat
 | .or=>k.wrap (BitVec.ofInt k.bits a ||| BitVec.ofInt k.bits b).toNat
 | .xor=>k.wrap (BitVec.ofInt k.bits a ^^^ BitVec.ofInt k.bits b).toNat
 | _=>k.wrap (BitVec.ofInt k.bits a &&& ~~~ BitVec.ofInt k.bits b).toNat
def binI (op:BinOp) (k:IntKind) (a b:Int):Option AVal :=
 match op with
 | .add=>some (.v (.int k (k.wrap (a+b))))
 | .sub=>some (.v (.int k (k.wrap (a-b))))
 | .mul=>some (.v (.int k (k.wrap (a*b))))
 | .quo=>cond (decide (b=0)) none (some (.v (.int k (k.wrap (a.tdiv b)))))
 | .rem=>cond (decide (b=0)) none (some (.v (.int k (a.tmod b))))
 | .and | .or | .xor | .andNot=>some (.v (.int k (bitsI op k a b)))
 | .eql=>some (.v (.bool (a == b)))
 | .neq=>some (.v (.bool (a != b)))
 | .lss=>some (.v (.bool (decide (a < b))))
 | .leq=>some (.v (.bool (decide (a≤b))))
 | .gtr=>some (.v (.bool (decide (a > b))))
 | .geq=>some (.v (.bool (decide (a≥b))))
 | _=>none
def isShift:BinOp→Bool
 | .shl | .shr=>true
 | _=>false
def binS (op:BinOp) (a b:ByteArray):Option AVal :=
 match op with
 | .eql=>some (.v (.bool (a.toList == b.toList)))
 | .neq=>some (.v (.bool !(a.toList == b.toList)))
 | _=>none
def binB (op:BinOp) (a b:Bool):Option AVal :=
 match op with
 | .eql=>some (.v (.bool (a == b)))
 | .neq=>some (.v (.bool !(a == b)))
 | _=>none
def fillA (place:Nat→Option (Nat × Nat)) (cells:List AVal):List (Nat × AVal)→Option (List AVal)
 | []=>some cells
 | (i,v)::rest=>match place i with
  | none=>none
  | some (off,size)=>cond (Nat.beq v.cells.length size&&Nat.ble (off+size) cells.length&&v.flat) (fillA place (cells.take off++v.cells++cells.drop (off+size)) rest) none
def evp (F:Fr):List (Nat × Operand)→Option (List (Nat × AVal))
 | []=>some []
 | (i,x)::xs=>match ev F x,evp F xs with
  | some v,some vs=>some ((i,v)::vs)
  | _,_=>none
def places (tab:List TyRow):List Field→Option (List (Nat × Nat))
 | []=>some []
 | f::fs=>match tfind tab f.type,places tab fs with
  | some r,some ps=>some ((f.offset,r.size)::ps)
  | _,_=>none
def readP (tab:List TyRow) (o:Op) (F:Fr):Option AVal :=
 match o with
 | .move x | .assign x=>ev F x
 | .pick c a b=>match ev F c with
  | some (.v (.bool t))=>cond t (ev F a) (ev F b)
  | _=>none
 | .nilCheck x=>match ev F x with
  | some (.ptr j off)=>some (.ptr j off)
  | some (.pp cs off)=>some (.pp cs off)
  | some (.fn (.func f) a b)=>some (.fn (.func f) a b)
  | _=>none
 | .binOp op t x y _=>match ev F x,ev F y with
  | some (.v (.int k a)),some (.v (.int k' b))=>cond (isShift op) (cond (decide (b < 0)) none (match op with
    | .shl=>some (.v (.int k (k.wrap (a*2 ^ (min b.toNat k.bits)))))
    | _=>some (.v (.int k (a.fdiv (2 ^ (min b.toNat k.bits))))))) (cond (decide (k=k')) (binI op k a b) none)
  | some (.v (.string a)),some (.v (.string b))=>binS op a b
  | some (.v (.bool a)),some (.v (.bool b))=>match tfind tab t with
   | some ⟨_,.bool,_,_,_⟩=>binB op a b
   | _=>none
  | _,_=>none
 | .unOp .not _ x=>match ev F x with
  | some (.v (.bool b))=>some (.v (.bool (!b)))
  | _=>none
 | .convert s d x=>match ev F x,tfind tab s,tfind tab d with
  | some (.v (.int _ n)),some _,some ⟨_,.int k,_,_,_⟩=>some (.v (.int k (k.wrap n)))
  | _,_,_=>none
 | .makeFunc fn first cap=>match evs F first.toList,evs F cap.toList with
  | some a,some b=>some (.fn fn a b)
  | _,_=>none
 | .makeInterface t x=>match ev F x,tfind tab t with
  | some v,some r=>(match r.d with | .interface _=>none|_=>some (.ifc t v))
  | _,_=>none
 | .fieldAddr s x f=>match tfind tab s,ev F x with
  | some ⟨_,.struct fs,_,_,_⟩,some v=>match fs[f]? with
   | some fd=>match tfind tab fd.type with
    | some r=>cond (Nat.beq r.size 0) none (match v with
     | .ptr j off=>some (.ptr j (off+fd.offset))
     | .pp cs off=>some (.pp cs (off+fd.offset))
     | _=>none)
    | none=>none
   | none=>none
  | _,_=>none
 | .field t x f=>match tfind tab t,ev F x with
  | some ⟨_,.struct fs,_,_,_⟩,some (.agg cs)=>match fs[f]? with
   | some fd=>match tfind tab fd.type with
    | some r=>takeA r cs fd.offset
    | none=>none
   | none=>none
  | _,_=>none
 | .extract x i=>match ev F x with
  | some (.tup cs)=>cs[i]?
  | _=>none
 | .build t parts=>match tfind tab t,evp F parts.toList with
  | some ⟨_,.struct fs,.agg z,_,_⟩,some vs=>match places tab fs.toList with
   | some ps=>(fillA (fun i=>ps[i]?) (z.toList.map constA) vs).map .agg
   | none=>none
  | some ⟨_,.array n e,.agg z,_,_⟩,some vs=>match tfind tab e with
   | some r=>(fillA (fun i=>some (i*r.size,r.size)) (z.toList.map constA) vs).map .agg
   | none=>none
  | _,_=>none
 | .load t a=>match ev F a,tfind tab t with
  | some (.pp cs off),some r=>takeA r cs off
  | _,_=>none
 | .call { callee:=.builtin .len,args,argTypes }=>match args[0]?,argTypes[0]? with
  | some x,some t=>match ev F x,tfind tab t with
   | some (.sl xs),some ⟨_,.slice _,_,_,_⟩=>some (.v (.int .i64 xs.length))
   | some (.slf xs),some ⟨_,.slice _,_,_,_⟩=>some (.v (.int .i64 xs.length))
   | some (.slz xs),some ⟨_,.slice _,_,_,_⟩=>some (.v (.int .i64 xs.length))
   | some (.v (.string s)),some ⟨_,.string,_,_,_⟩=>some (.v (.int .i64 s.size))
   | _,_=>none
  | _,_=>none
 | .call { callee:=.builtin .min,args,argTypes }=>match evs F args.toList with
  | some [.v (.int k a),.v (.int _ b)]=>some (.v (.int k (if b < a then b else a)))
  | _=>none
 | .call { callee:=.builtin .max,args,argTypes }=>match evs F args.toList with
  | some [.v (.int k a),.v (.int _ b)]=>some (.v (.int k (if b > a then b else a)))
  | _=>none
 | _=>none
theorem came_same {ext:Nat→Prop} {w:World} {β:List Ent} {H:List AObj} {v:AVal} {u:Value} (hI:Inv ext w H β) (hr:Rel (ctx ext w β) v u) :
  Came ext w β (one v H) .ret u w:=⟨v,H,β,⟨rfl,rfl⟩,hr,hI,Step.refl w β⟩
end
end Go.AL
namespace Go.AL
open Go
section
variable {P:Program}
def Says (P:Program) (o:Oper) (F:Fr) (v:AVal):Prop :=
 ∀ (c:Ctx) (ρ:Operand→Value) (w:World),c.w=w→(∀ x∈o.op.operands,∀ v,ev F x=some v→Rel c v (ρ x))→∃ u,(execOp ρ o).run P w = .ok (.value u) w∧Rel c v u
theorem Says.sem {o:Oper} {F:Fr} {v:AVal} (h:Says P o F v) (H:List AObj):OpSem P o F H (one v H):=by
 intro ext w β ρ hI _ hκ hρ
 obtain ⟨u,h1,h2⟩:=h (ctx ext w β) ρ w rfl hρ
 rw [h1]
 exact came_same hI h2
theorem says_bin {dst:Option Tmp} {type:TypeId} {pos:String} {after:Array Edge} {guard:Option (Nat × Bool)} {F:Fr} {op:BinOp} {t yt:TypeId} {x y:Operand} {a b:AVal} {v:AVal}
  (ha:ev F x=some a) (hb:ev F y=some b) (h:∀ (c:Ctx) (u u':Value) (w:World) ,Rel c a u→Rel c b u'→(do eqGuard op t x y u u';binOp op t u u':Sem Value).run P w = .ok (match v with | .v r=>r|_=>.tuple #[]) w) (hv:∃ r,v = .v r) :
  Says P ⟨dst,.binOp op t x y yt,type,pos,after,guard⟩ F v:=by
 intro c ρ w hw hρ
 have h1:=hρ x (by simp [Op.operands]) a ha
 have h2:=hρ y (by simp [Op.operands]) b hb
 have h3:=h c _ _ w h1 h2
 obtain ⟨r,rfl⟩:=hv
 refine ⟨r,?_,rfl⟩
 simp only [execOp,Sem.run_bind] at h3 ⊢
 rw [h3]
 rfl
theorem run_eqGuard_int (op:BinOp) (t:TypeId) (x y:Operand) (k k':IntKind) (a b:Int) (w:World):(eqGuard op t x y (.int k a) (.int k' b)).run P w = .ok () w:=by
 unfold eqGuard;cases op<;>rfl
theorem run_eqGuard_string (op:BinOp) (t:TypeId) (x y:Operand) (a b:ByteArray) (w:World):(eqGuard op t x y (.string a) (.string b)).run P w = .ok () w:=by
 unfold eqGuard;cases op<;>rfl
theorem run_eqGuard_bool (op:BinOp) (t:TypeId) (x y:Operand) (a b:Bool) (w:World):(eqGuard op t x y (.bool a) (.bool b)).run P w = .ok () w:=by
 unfold eqGuard;cases op<;>rfl
theorem binI_run {op:BinOp} {k:IntKind} {a b:Int} {v:AVal} (hs:isShift op=false) (h:binI op k a b=some v) (t:TypeId) (w:World):∃ r,v = .v r∧(binOp op t (.int k a) (.int k b)).run P w = .ok r w:=by
 cases op<;>first|(simp [isShift] at hs;done)|skip
 all_goals simp only [binI] at h
 case quo =>
  cases hb:decide (b=0) with
  | true=>rw [hb] at h;cases h
  | false=>rw [hb] at h;simp at h;subst h;refine ⟨_,rfl,?_⟩;have:=of_decide_eq_false hb;simp [binOp,Op.intDiv,this]
 case rem =>
  cases hb:decide (b=0) with
  | true=>rw [hb] at h;cases h
  | false=>rw [hb] at h;simp at h;subst h;refine ⟨_,rfl,?_⟩;have:=of_decide_eq_false hb;simp [binOp,Op.intDiv,this]
 all_goals (injection h with h;subst h;refine ⟨_,rfl,?_⟩;simp [binOp,Op.intArith,Op.intBits,Op.intCmp,bitsI])
theorem readP_bin [T:TyTab P] {dst:Option Tmp} {type:TypeId} {pos:String} {after:Array Edge} {guard:Option (Nat × Bool)} {F:Fr} {op:BinOp} {t yt:TypeId} {x y:Operand} {v:AVal}
  (h:readP T.tab (.binOp op t x y yt) F=some v):Says P ⟨dst,.binOp op t x y yt,type,pos,after,guard⟩ F v:=by
 simp only [readP] at h
 split at h
 ·rename_i k a k' b h1 h2
  cases hs:isShift op with
  | true =>
   rw [hs] at h
   simp only [cond_true] at h
   cases hb:decide (b < 0) with
   | true=>rw [hb] at h;cases h
   | false =>
    rw [hb] at h
    simp only [cond_false] at h
    have hb':=of_decide_eq_false hb
    cases op<;>first|(simp [isShift] at hs;done)|skip
    all_goals (injection h with h;subst h;refine says_bin h1 h2 (fun c u u' w r1 r2=>?_) ⟨_,rfl⟩;cases (r1:u=_);cases (r2:u'=_);simp only [Sem.run_bind,run_eqGuard_int,Result.andThen_ok];simp [binOp,Op.shift,hb'])
  | false =>
   rw [hs] at h
   simp only [cond_false] at h
   cases hk:decide (k=k') with
   | false=>rw [hk] at h;cases h
   | true =>
    rw [hk] at h
    simp only [cond_true] at h
    have hk':=of_decide_eq_true hk
    subst hk'
    obtain ⟨r,rfl,_⟩:=binI_run (P:=P) hs h t default
    refine says_bin h1 h2 (fun c u u' w r1 r2=>?_) ⟨_,rfl⟩
    cases (r1:u=_);cases (r2:u'=_)
    obtain ⟨r',h3,h4⟩:=binI_run (P:=P) hs h t w
    cases h3
    simp only [Sem.run_bind,run_eqGuard_int,Result.andThen_ok,h4]
 ·rename_i a b h1 h2
  cases op<;>simp only [binS] at h<;>first|(cases h;done)|skip
  all_goals (injection h with h;subst h;refine says_bin h1 h2 (fun c u u' w r1 r2=>?_) ⟨_,rfl⟩;cases (r1:u=_);cases (r2:u'=_);simp only [Sem.run_bind,run_eqGuard_string,Result.andThen_ok];simp [binOp,Op.stringOp])
 ·rename_i a b h1 h2
  split at h
  ·rename_i q1 q2 q3 q4 ht
   have hu:=ty_und ht
   cases op<;>simp only [binB] at h<;>first|(cases h;done)|skip
   all_goals (injection h with h;subst h;refine says_bin h1 h2 (fun c u u' w r1 r2=>?_) ⟨_,rfl⟩;cases (r1:u=_);cases (r2:u'=_);simp only [Sem.run_bind,run_eqGuard_bool,Result.andThen_ok];simp [binOp,Op.equal,Op.maxDepth,run_equalIn_bool w _ t a b hu])
  ·cases h
 ·cases h
theorem constA_one {v:Value} (h:v.oneCell'=true):(constA v).one=true:=by
 unfold constA;split
 ·rfl
 ·exact h
theorem relL_const (c:Ctx):∀ l:List Value,RelL c (l.map constA) l
 | []=>rfl
 | v::l=>⟨v,l,rfl,constA_rel c v,relL_const c l⟩
def RelPs (c:Ctx):List (Nat × AVal)→List (Nat × Value)→Prop
 | [],qs=>qs=[]
 | (i,v)::vs,qs=>∃ u qs',qs=(i,u)::qs'∧Rel c v u∧RelPs c vs qs'
theorem evp_rel {c:Ctx} {F:Fr} {ρ:Operand→Value}:∀ {xs:List (Nat × Operand)} {vs:List (Nat × AVal)},(∀ p∈xs,∀ v,ev F p.2=some v→Rel c v (ρ p.2))→evp F xs=some vs →
  RelPs c vs (xs.map fun p=>(p.1,ρ p.2))
 | [],vs,_,h=>by simp [evp] at h;subst h;rfl
 | (i,x)::xs,vs,hρ,h=>by
  simp only [evp] at h
  cases h1:ev F x with
  | none=>rw [h1] at h;cases h
  | some v =>
   cases h2:evp F xs with
   | none=>rw [h1,h2] at h;cases h
   | some us =>
    rw [h1,h2] at h;simp at h;subst h
    exact ⟨ρ x,_,rfl,hρ (i,x) (List.mem_cons_self ..) v h1,evp_rel (fun y hy=>hρ y (List.mem_cons_of_mem _ hy)) h2⟩
theorem foldl_splice (off:Nat):∀ (l:List Value) (j:Nat) (cs:Array Value),off+j+l.length≤cs.size →
  ((l.zipIdx j).foldl (fun (cs:Array Value) (p:Value × Nat)=>cs.setIfInBounds (off+p.2) p.1) cs).toList=cs.toList.take (off+j)++l++cs.toList.drop (off+j+l.length)
 | [],j,cs,h=>by simp
 | x::l,j,cs,h=>by
  simp only [List.zipIdx_cons,List.foldl_cons]
  rw [foldl_splice off l (j+1) _ (by simp at h ⊢;omega)]
  simp only [List.length_cons] at h
  have hlt:off+j < cs.toList.length:=by simp;omega
  simp only [Array.toList_setIfInBounds,List.length_cons]
  rw [show off+(j+1)=off+j+1 by omega,List.take_set,List.drop_set_of_lt (by omega),show off+j+(l.length+1)=off+j+1+l.length by omega]
  congr 1
  rw [List.take_succ_eq_append_getElem hlt,List.set_append_right _ _ (by simp;omega)]
  have hmin:min (off+j) cs.size=off+j:=Nat.min_eq_left (by simpa using Nat.le_of_lt hlt)
  simp [hmin]
theorem fillA_fill {c:Ctx} {place:Nat→Option (Nat × Nat)}:∀ {vs:List (Nat × AVal)} {us:List (Nat × Value)} {cells:List AVal} {cs:Array Value} {out:List AVal},
  RelPs c vs us→RelL c cells cs.toList→fillA place cells vs=some out→∃ cs',Instr.fill place cs us=some cs'∧RelL c out cs'.toList
 | [],us,cells,cs,out,hv,hc,h=>by cases hv;simp [fillA] at h;subst h;exact ⟨cs,rfl,hc⟩
 | (i,v)::vs,us,cells,cs,out,hv,hc,h=>by
   obtain ⟨q2,us',rfl,h2,tl⟩:=hv
   simp only [fillA] at h
   cases hp:place i with
   | none=>rw [hp] at h;cases h
   | some os =>
    obtain ⟨off,size⟩:=os
    rw [hp] at h
    simp only at h
    cases hb:(Nat.beq v.cells.length size&&Nat.ble (off+size) cells.length&&v.flat) with
    | false=>rw [hb] at h;cases h
    | true =>
     rw [hb] at h
     simp only [cond_true] at h
     simp only [Bool.and_eq_true] at hb
     obtain ⟨⟨b1,b2⟩,b3⟩:=hb
     have b1:=Nat.eq_of_beq_eq_true b1
     have b2:=Nat.le_of_ble_eq_true b2
     obtain ⟨r1,_⟩:=h2.cells b3
     have l1:=r1.length
     have l2:=hc.length
     simp only [Array.length_toList] at l1 l2
     have hs:=foldl_splice off q2.cells.toList 0 cs (by simp;omega)
     simp only [Nat.add_zero] at hs
     have e1:Array.foldl (fun (cs:Array Value) (p:Value × Nat)=>cs.setIfInBounds (off+p.2) p.1) cs q2.cells.zipIdx=List.foldl (fun (cs:Array Value) (p:Value × Nat)=>cs.setIfInBounds (off+p.2) p.1) cs (q2.cells.toList.zipIdx 0):=by
      rw [←Array.foldl_toList];simp [Array.toList_zipIdx]
     have hrel:RelL c (cells.take off++v.cells++cells.drop (off+size)) (Array.foldl (fun (cs:Array Value) (p:Value × Nat)=>cs.setIfInBounds (off+p.2) p.1) cs q2.cells.zipIdx).toList:=by
      rw [e1,hs,show q2.cells.toList.length=size by simp;omega]
      exact ((hc.take off).append r1).append (hc.drop (off+size))
     obtain ⟨cs',h3,h4⟩:=fillA_fill tl hrel h
     refine ⟨cs',?_,h4⟩
     simp only [Instr.fill,hp]
     rw [if_neg (by simp;omega)]
     exact h3
theorem places_run [T:TyTab P] {tab:List TyRow} (htab:tab=T.tab) (w:World):∀ {fs:List Field} {ps:List (Nat × Nat)},places tab fs=some ps →
  (fs.mapM (fun f=>do pure (f.offset,←sizeOf f.type):Field→Sem (Nat × Nat))).run P w = .ok ps w
 | [],ps,h=>by simp [places] at h;subst h;rfl
 | f::fs,ps,h=>by
  simp only [places] at h
  cases h1:tfind tab f.type with
  | none=>rw [h1] at h;cases h
  | some r =>
   cases h2:places tab fs with
   | none=>rw [h1,h2] at h;cases h
   | some qs =>
    rw [h1,h2] at h;simp at h;subst h
    subst htab
    simp only [List.mapM_cons,Sem.run_bind,run_size h1,Result.andThen_ok,Sem.run_pure,places_run rfl w h2]
theorem run_makeInterface_ok [T:TyTab P] {t:TypeId} {r:TyRow} (h:tfind T.tab t=some r) (hi:∀ ms,r.d ≠ .interface ms) (x:Value) (w:World):(Instr.makeInterface t x).run P w = .ok (.iface t x) w:=by
 unfold Instr.makeInterface
 simp only [Sem.run_bind,run_und h,Result.andThen_ok]
 cases hd:r.d with
 | interface ms=>exact absurd hd (hi ms)
 | _=>rfl
theorem relL_two {c:Ctx} {v x:AVal} {us:List Value} (h:RelL c [v,x] us):∃ u y,us=[u,y]∧Rel c v u∧Rel c x y:=by
 obtain ⟨u,us',rfl,h1,y,us'',rfl,h2,rfl⟩:=h;exact ⟨u,y,rfl,h1,h2⟩
theorem readP_says [T:TyTab P] {dst:Option Tmp} {op:Op} {type:TypeId} {pos:String} {after:Array Edge} {guard:Option (Nat × Bool)} {F:Fr} {v:AVal}
  (h:readP T.tab op F=some v):Says P ⟨dst,op,type,pos,after,guard⟩ F v:=by
 cases op
 case binOp=>exact readP_bin h
 all_goals (simp only [readP] at h)
 all_goals (try (cases h;done))
 case move x=>exact fun c ρ w hw hρ=>⟨ρ x,rfl,hρ x (by simp [Op.operands]) v h⟩
 case assign x=>exact fun c ρ w hw hρ=>⟨ρ x,rfl,hρ x (by simp [Op.operands]) v h⟩
 case pick x a b =>
  intro c ρ w hw hρ
  split at h
  ·rename_i t h1
   have r1:ρ x = .bool t:=hρ x (by simp [Op.operands]) _ h1
   cases t with
   | true=>exact ⟨ρ a,by simp [execOp,r1,asBool],hρ a (by simp [Op.operands]) v h⟩
   | false=>exact ⟨ρ b,by simp [execOp,r1,asBool],hρ b (by simp [Op.operands]) v h⟩
  ·cases h
 case nilCheck x =>
  intro c ρ w hw hρ
  split at h
  ·rename_i j off h1
   injection h with h;subst h
   have r:=hρ x (by simp [Op.operands]) _ h1
   obtain ⟨e,b,_,_,_,h2⟩:=id r
   exact ⟨ρ x,by simp [execOp,h2],r⟩
  ·rename_i cs off h1
   injection h with h;subst h
   have r:=hρ x (by simp [Op.operands]) _ h1
   obtain ⟨b,o,us,h2,_⟩:=id r
   exact ⟨ρ x,by simp [execOp,h2],r⟩
  ·rename_i f a b h1
   injection h with h;subst h
   have r:=hρ x (by simp [Op.operands]) _ h1
   obtain ⟨a1,a2,h2,_⟩:=id r
   exact ⟨ρ x,by simp [execOp,h2],r⟩
  ·cases h
 case unOp op t x =>
  intro c ρ w hw hρ
  cases op<;>simp only [] at h<;>try (cases h;done)
  split at h
  ·rename_i b h1
   injection h with h;subst h
   have r1:ρ x = .bool b:=hρ x (by simp [Op.operands]) _ h1
   exact ⟨.bool (!b),by simp [execOp,r1,Op.unary],rfl⟩
  ·cases h
 case convert s d x =>
  intro c ρ w hw hρ
  split at h
  ·rename_i k n r a1 k' a2 a3 a4 h1 h2 h3
   injection h with h;subst h
   have r1:ρ x = .int k n:=hρ x (by simp [Op.operands]) _ h1
   exact ⟨_,by simp [execOp,r1,convert,run_und h2,run_und h3,Conv.intToInt],rfl⟩
  ·cases h
 case makeFunc fn first cap =>
  intro c ρ w hw hρ
  split at h
  ·rename_i a b h1 h2
   injection h with h;subst h
   refine ⟨.func fn (first.map ρ) (cap.map ρ),by simp [execOp,Instr.makeFunc],_,_,rfl,?_,?_⟩
   ·simpa using evs_rel (c:=c) (ρ:=ρ) (fun x hx=>hρ x (by simp [Op.operands];exact .inl (by simpa using hx))) h1
   ·simpa using evs_rel (c:=c) (ρ:=ρ) (fun x hx=>hρ x (by simp [Op.operands];exact .inr (by simpa using hx))) h2
  ·cases h
 case makeInterface t x =>
  intro c ρ w hw hρ
  split at h
  ·rename_i u r h1 h2
   have r1:=hρ x (by simp [Op.operands]) _ h1
   have hi:∀ ms,r.d ≠ .interface ms:=fun ms e=>by rw [e] at h;cases h
   have hv:v = .ifc t u:=by
    cases hd:r.d<;>rw [hd] at h<;>first|(injection h with h;exact h.symm)|(cases h)
   subst hv
   exact ⟨.iface t (ρ x),by simp [execOp,run_makeInterface_ok h2 hi],_,rfl,r1⟩
  ·cases h
 case fieldAddr s x f =>
  intro c ρ w hw hρ
  split at h
  ·rename_i q1 fs q2 q3 q4 u ht h1
   have r:=hρ x (by simp [Op.operands]) _ h1
   split at h
   ·rename_i fd hf
    split at h
    ·rename_i rr hr
     cases hz:Nat.beq rr.size 0 with
     | true=>rw [hz] at h;cases h
     | false =>
      rw [hz] at h
      simp only [cond_false] at h
      have hz':rr.size≠0:=fun e=>by rw [e] at hz;cases hz
      have key:∀ (b o:Nat),ρ x = .pointer (some ⟨b,o,none⟩)→(execOp ρ ⟨dst,.fieldAddr s x f,type,pos,after,guard⟩).run P w = .ok (.value (.pointer (some ⟨b,o+fd.offset,none⟩))) w:=by
       intro b o e
       have hadd:(⟨b,o,none⟩:Addr).add fd.offset=⟨b,o+fd.offset,none⟩:=by
        unfold Addr.add;split
        ·rename_i h0;rw [h0];rfl
        ·rfl
       simp only [execOp,Instr.fieldAt,Sem.run_bind,run_und ht,Result.andThen_ok,hf,Instr.sureAddr,e,fieldPlace,run_size hr,hz',if_false,hadd,Sem.run_pure]
      split at h
      ·rename_i j off
       injection h with h;subst h
       obtain ⟨e,b,he,h0,hb,hu⟩:=r
       exact ⟨_,key b off hu,e,b,he,h0,hb,rfl⟩
      ·rename_i cs off
       injection h with h;subst h
       obtain ⟨b,o,us,hu,hb,hs,hrl,hc⟩:=r
       exact ⟨_,key b _ hu,b,o,us,by rw [Nat.add_assoc],hb,hs,hrl,hc⟩
      ·cases h
    ·cases h
   ·cases h
  ·cases h
 case field t x f =>
  intro c ρ w hw hρ
  split at h
  ·rename_i q1 fs q2 q3 q4 cs ht h1
   obtain ⟨a,ha,r⟩:=hρ x (by simp [Op.operands]) _ h1
   split at h
   ·rename_i fd hf
    split at h
    ·rename_i rr hr
     obtain ⟨u,h2,h3⟩:=takeA_part hr r h w
     exact ⟨u,by simp only [execOp,Instr.field,Sem.run_bind,run_und ht,Result.andThen_ok,hf,ha,asAgg,Sem.run_pure,h2],h3⟩
    ·cases h
   ·cases h
  ·cases h
 case extract x i =>
  intro c ρ w hw hρ
  split at h
  ·rename_i cs h1
   obtain ⟨a,ha,r⟩:=hρ x (by simp [Op.operands]) _ h1
   obtain ⟨u,h2,h3⟩:=r.get h
   have h4:a[i]? = some u:=by simpa using h2
   exact ⟨u,by simp [execOp,Instr.extract,ha,h4],h3⟩
  ·cases h
 case build t parts =>
  intro c ρ w hw hρ
  have hp:∀ p∈parts.toList,∀ v,ev F p.2=some v→Rel c v (ρ p.2):=fun p hp v hv=>hρ p.2 (by simp [Op.operands];exact ⟨p.1,by simpa using hp⟩) v hv
  have hm:(parts.map fun (i,x)=>(i,ρ x)).toList=parts.toList.map fun p=>(p.1,ρ p.2):=by simp
  split at h
  ·rename_i q1 fs z q2 q3 vs ht h1
   split at h
   ·rename_i ps hps
    cases hf:fillA (fun i=>ps[i]?) (z.toList.map constA) vs with
    | none=>rw [hf] at h;cases h
    | some out =>
     rw [hf] at h;simp at h;subst h
     obtain ⟨cs',h3,h4⟩:=fillA_fill (evp_rel hp h1) (relL_const c z.toList) hf
     refine ⟨.agg cs',?_,cs',rfl,h4⟩
     have hmm:(fs.mapM (fun f=>do pure (f.offset,←sizeOf f.type):Field→Sem (Nat × Nat))).run P w = .ok ps.toArray w:=by
      rw [Array.mapM_eq_mapM_toList]
      simp only [Sem.run_map,places_run rfl w hps,Result.andThen_ok]
     simp only [execOp,Instr.build,Sem.run_bind,run_zero ht,run_und ht,Result.andThen_ok,hmm,Value.cells,hm,Sem.run_pure]
     have:(fun (i:Nat)=>ps.toArray[i]?)=fun (i:Nat)=>ps[i]?:=by funext i;simp
     rw [this,h3]
     rfl
   ·cases h
  ·rename_i q1 n e z q2 q3 vs ht h1
   split at h
   ·rename_i r hr
    cases hf:fillA (fun i=>some (i*r.size,r.size)) (z.toList.map constA) vs with
    | none=>rw [hf] at h;cases h
    | some out =>
     rw [hf] at h;simp at h;subst h
     obtain ⟨cs',h3,h4⟩:=fillA_fill (evp_rel hp h1) (relL_const c z.toList) hf
     refine ⟨.agg cs',?_,cs',rfl,h4⟩
     simp only [execOp,Instr.build,Sem.run_bind,run_zero ht,run_und ht,run_size hr,Result.andThen_ok,Value.cells,hm,Sem.run_pure,h3]
   ·cases h
  ·cases h
 case load t a =>
  intro c ρ w hw hρ
  split at h
  ·rename_i cs off r h1 h2
   obtain ⟨b,o,us,hu,hb,hs,hrl,hc⟩:=hρ a (by simp [Op.operands]) _ h1
   obtain ⟨u,h3,h4⟩:=takeA_load (P:=P) h2 hrl h (w:=w) (b:=b) (o:=o) (fun i u hi=>by
    subst hw
    have:=hc i (List.getElem?_eq_some_iff.1 hi).1
    rw [this,hi])
   refine ⟨u,by simp only [execOp,Instr.loadAt,Instr.sureAddr,hu,Sem.run_bind,Sem.run_pure,Result.andThen_ok,h3],?_⟩
   exact Rel.le (c:={ c with β:=[] }) (c':=c) ⟨fun b hb1 hb2=>⟨hb1,hb2,.inl rfl⟩,fun j e he=>by simp at he⟩ _ _ h4
  ·cases h
 case call cl =>
  obtain ⟨callee,args,argTypes⟩:=cl
  cases callee with
  | value f=>simp at h
  | invoke r m=>simp at h
  | builtin b =>
   cases b<;>simp only [] at h<;>try (cases h;done)
   case len =>
    intro c ρ w hw hρ
    split at h
    ·rename_i x t ha hat
     have hargs:(args.map ρ)[0]? = some (ρ x):=by simp [ha]
     have hmem:x∈args:=Array.mem_of_getElem? ha
     split at h
     ·rename_i xs q1 e q2 q3 q4 h1 ht
      injection h with h;subst h
      obtain ⟨A,m,es,hu,_⟩:=hρ x (by simp [Op.operands,Call.operands,hmem]) _ h1
      exact ⟨_,by simp [execOp,resolve,invoke,builtin,Builtin.len_,hargs,hat,run_und ht,hu,goInt],rfl⟩
     ·rename_i xs q1 e q2 q3 q4 h1 ht
      injection h with h;subst h
      obtain ⟨A,es,hu,_⟩:=hρ x (by simp [Op.operands,Call.operands,hmem]) _ h1
      exact ⟨_,by simp [execOp,resolve,invoke,builtin,Builtin.len_,hargs,hat,run_und ht,hu,goInt],rfl⟩
     ·rename_i xs q1 e q2 q3 q4 h1 ht
      injection h with h;subst h
      obtain ⟨A,m,es,hu,_⟩:=hρ x (by simp [Op.operands,Call.operands,hmem]) _ h1
      exact ⟨_,by simp [execOp,resolve,invoke,builtin,Builtin.len_,hargs,hat,run_und ht,hu,goInt],rfl⟩
     ·rename_i s q1 q2 q3 q4 h1 ht
      injection h with h;subst h
      have hu:ρ x = .string s:=hρ x (by simp [Op.operands,Call.operands,hmem]) _ h1
      exact ⟨_,by simp [execOp,resolve,invoke,builtin,Builtin.len_,hargs,hat,run_und ht,hu,goInt],rfl⟩
     ·cases h
    ·cases h
   case min =>
    intro c ρ w hw hρ
    split at h
    ·rename_i k a k' b h1
     injection h with h;subst h
     have r:=evs_rel (c:=c) (ρ:=ρ) (fun x hx=>hρ x (by simp [Op.operands,Call.operands];simpa using hx)) h1
     obtain ⟨u,y,h2,h3,h4⟩:=relL_two r
     cases (h3:u=_);cases (h4:y=_)
     exact ⟨_,by simp [execOp,resolve,invoke,builtin,Builtin.min_,h2,Builtin.min2],rfl⟩
    ·cases h
   case max =>
    intro c ρ w hw hρ
    split at h
    ·rename_i k a k' b h1
     injection h with h;subst h
     have r:=evs_rel (c:=c) (ρ:=ρ) (fun x hx=>hρ x (by simp [Op.operands,Call.operands];simpa using hx)) h1
     obtain ⟨u,y,h2,h3,h4⟩:=relL_two r
     cases (h3:u=_);cases (h4:y=_)
     exact ⟨_,by simp [execOp,resolve,invoke,builtin,Builtin.max_,h2,Builtin.max2],rfl⟩
    ·cases h
end
end Go.AL
namespace Go.AL
open Go
section
variable {P:Program}
theorem box_of {ext:Nat→Prop} {w:World} {H:List AObj} {β:List Ent} (hI:Inv ext w H β) {j off:Nat} {bt:TypeId} {cs:List AVal} (hH:H[j]? = some (.box bt cs)) {u:Value} (hr:Rel (ctx ext w β) (.ptr j off) u) :
  ∃ e b us,β[j]? = some e∧e.blk=some b∧u = .pointer (some ⟨b,off,none⟩)∧w.heap[b]? = some (.cells us bt (0,0))∧RelL (ctx ext w β) cs us.toList∧cs.all AVal.one=true∧e.gen=0:=by
 obtain ⟨e,b,he,h0,hb,hu⟩:=hr
 obtain ⟨h1,h2,b',us,h3,h4,h5⟩:=hI.obj j _ e hH he
 rw [hb] at h3;simp at h3;subst h3
 exact ⟨e,b,us,he,hb,hu,h4,h5,h2,h0⟩
theorem load_sem [T:TyTab P] {dst:Option Tmp} {t:TypeId} {a:Operand} {type:TypeId} {pos:String} {after:Array Edge} {guard:Option (Nat × Bool)} {F:Fr} {H:List AObj} {j off:Nat} {bt:TypeId} {cs:List AVal} {r:TyRow} {v:AVal}
  (ha:ev F a=some (.ptr j off)) (hH:H[j]? = some (.box bt cs)) (ht:tfind T.tab t=some r) (hv:takeA r cs off=some v) :
  OpSem P ⟨dst,.load t a,type,pos,after,guard⟩ F H (one v H):=by
 intro ext w β ρ hI _ hκ hρ
 obtain ⟨e,b,us,he,hb,hu,hc,hr,_⟩:=box_of hI hH (hρ a (by simp [Op.operands]) _ ha)
 obtain ⟨u,h1,h2⟩:=takeA_load (P:=P) ht hr hv (w:=w) (b:=b) (o:=0) (fun i u hi=>by
  simp only [World.cell?,hc,Nat.zero_add,Option.isSome_none,Bool.false_eq_true,if_false]
  simpa using hi)
 simp only [Nat.zero_add] at h1
 have h3:(execOp ρ ⟨dst,.load t a,type,pos,after,guard⟩).run P w = .ok (.value u) w:=by
  simp only [execOp,Instr.loadAt,Instr.sureAddr,hu,Sem.run_bind,Sem.run_pure,Result.andThen_ok,h1]
 rw [h3]
 exact came_same hI h2
theorem load_dsem [T:TyTab P] {dst:Option Tmp} {t:TypeId} {a:Operand} {type:TypeId} {pos:String} {after:Array Edge} {guard:Option (Nat × Bool)} {F:Fr} {H:List AObj} {j off:Nat} {bt:TypeId} {cs:List AVal} {r:TyRow} {v:AVal}
  (ha:ev F a=some (.ptr j off)) (hH:H[j]? = some (.box bt cs)) (ht:tfind T.tab t=some r) (hv:takeA r cs off=some v) :
  DSem P .r ⟨dst,.load t a,type,pos,after,guard⟩ F H v H :=
 ⟨rfl,fun H' hb=>load_sem ha (hb j bt cs hH) ht hv⟩
def loadB (tab:List TyRow) (o:Op) (F:Fr) (H:List AObj):Option AVal :=
 match o with
 | .load t a=>match ev F a,tfind tab t with
  | some (.ptr j off),some r=>match H[j]? with
   | some (.box _ cs)=>takeA r cs off
   | _=>none
  | _,_=>none
 | _=>none
theorem loadB_dsem [T:TyTab P] {dst:Option Tmp} {o:Op} {type:TypeId} {pos:String} {after:Array Edge} {guard:Option (Nat × Bool)} {F:Fr} {H:List AObj} {v:AVal}
  (h:loadB T.tab o F H=some v):DSem P .r ⟨dst,o,type,pos,after,guard⟩ F H v H:=by
 cases o<;>simp only [loadB] at h<;>try (cases h;done)
 split at h
 ·rename_i j off r h1 h2
  split at h
  ·rename_i bt cs h3
   exact load_dsem h1 h3 h2 h
  ·cases h
 ·cases h
theorem readP_dsem [T:TyTab P] {dst:Option Tmp} {o:Op} {type:TypeId} {pos:String} {after:Array Edge} {guard:Option (Nat × Bool)} {F:Fr} {H:List AObj} {v:AVal}
  (h:readP T.tab o F=some v):DSem P .p ⟨dst,o,type,pos,after,guard⟩ F H v H:=⟨rfl,fun H'=>(readP_says h).sem H'⟩
def spliceA (cs:List AVal) (off:Nat) (vs:List AVal):List AVal:=cs.take off++vs++cs.drop (off+vs.length)
theorem setRow_get {w:World} {b:Nat} {us vs:Array Value} {t:TypeId} (h:w.heap[b]? = some (.cells us t (0,0))):(w.setRow b vs).heap[b]? = some (.cells vs t (0,0)):=setRow_heap w b us vs t (0,0) h
theorem all_append {p:AVal→Bool} {a b:List AVal} (ha:a.all p=true) (hb:b.all p=true):(a++b).all p=true:=by simp_all
theorem all_take {p:AVal→Bool} {a:List AVal} (n:Nat) (ha:a.all p=true):(a.take n).all p=true:=by
 rw [List.all_eq_true] at *;exact fun x hx=>ha x (List.mem_of_mem_take hx)
theorem all_drop {p:AVal→Bool} {a:List AVal} (n:Nat) (ha:a.all p=true):(a.drop n).all p=true:=by
 rw [List.all_eq_true] at *;exact fun x hx=>ha x (List.mem_of_mem_drop hx)
theorem flat_cells {v:AVal} (h:v.flat=true):v.cells.all AVal.one=true:=by
 cases v with
 | agg cs=>exact h
 | tup cs=>cases h
 | v x =>
  have h1:x.oneCell'=true:=h
  simp [AVal.cells,AVal.one,h1]
 | _=>rfl
theorem store_sem [T:TyTab P] {dst:Option Tmp} {t:TypeId} {a x:Operand} {type:TypeId} {pos:String} {after:Array Edge} {guard:Option (Nat × Bool)} {F:Fr} {H:List AObj} {j off:Nat} {bt:TypeId} {cs:List AVal} {r:TyRow} {v:AVal}
  (ha:ev F a=some (.ptr j off)) (hx:ev F x=some v) (hH:H[j]? = some (.box bt cs)) (ht:tfind T.tab t=some r) (hl:v.cells.length=r.size) (hf:v.flat=true) (hin:off+r.size≤cs.length) :
  OpSem P ⟨dst,.store t a x,type,pos,after,guard⟩ F H (one (.tup []) (H.set j (.box bt (spliceA cs off v.cells)))):=by
 intro ext w β ρ hI _ hκ hρ
 obtain ⟨e,b,us,he,hb,hu,hc,hr,hone,h0⟩:=box_of hI hH (hρ a (by simp [Op.operands]) _ ha)
 have hv:=hρ x (by simp [Op.operands]) _ hx
 obtain ⟨hcl,hco⟩:=hv.cells hf
 have l1:=hcl.length
 have l2:=hr.length
 simp only [Array.length_toList] at l1 l2
 have hst:=run_storeCells_at P b off bt (ρ x).cells.toList 0 us w hc (by simp;omega) hco
 simp only [Nat.add_zero] at hst
 generalize hus:(us.toList.take off++(ρ x).cells.toList++us.toList.drop (off+(ρ x).cells.toList.length)).toArray=us' at hst
 have h3:(execOp ρ ⟨dst,.store t a x,type,pos,after,guard⟩).run P w = .ok .skip (w.setRow b us'):=by
  simp only [execOp,Instr.storeAt,Instr.sureAddr,hu,storeVar,Sem.run_bind,Sem.run_pure,Result.andThen_ok,run_size ht]
  rw [if_neg (by simp;omega)]
  rw [hst]
  rfl
 rw [h3]
 have hstep:Step w β (w.setRow b us') β:=Step.write ⟨j,e,he,hb⟩ (by simp) (fun c hc=>setRow_other w b c us' hc) rfl rfl rfl
 have hcs:RelL (ctx ext w β) (spliceA cs off v.cells) us'.toList:=by
  rw [←hus]
  unfold spliceA
  rw [show (ρ x).cells.toList.length=v.cells.length by simp;omega]
  exact ((hr.take off).append hcl).append (hr.drop _)
 have hobj:RelO (ctx ext (w.setRow b us') β) e (.box bt (spliceA cs off v.cells)) :=
  ⟨h0,all_append (all_append (all_take _ hone) (flat_cells hf)) (all_drop _ hone),b,us',hb,setRow_get hc,hcs.le hstep.le⟩
 exact ⟨.tup [],_,β,⟨rfl,rfl⟩,⟨#[],rfl,rfl⟩,hI.write he hb (by simp) (fun c hc=>setRow_other w b c us' hc) rfl rfl rfl hobj,hstep⟩
def storeB (tab:List TyRow) (o:Op) (F:Fr) (H:List AObj):Option (List AObj) :=
 match o with
 | .store t a x=>match ev F a,ev F x,tfind tab t with
  | some (.ptr j off),some v,some r=>match H[j]? with
   | some (.box bt cs)=>cond (Nat.beq v.cells.length r.size&&v.flat&&Nat.ble (off+r.size) cs.length) (some (H.set j (.box bt (spliceA cs off v.cells)))) none
   | _=>none
  | _,_,_=>none
 | _=>none
theorem storeB_sem [T:TyTab P] {dst:Option Tmp} {o:Op} {type:TypeId} {pos:String} {after:Array Edge} {guard:Option (Nat × Bool)} {F:Fr} {H H':List AObj}
  (h:storeB T.tab o F H=some H'):OpSem P ⟨dst,o,type,pos,after,guard⟩ F H (one (.tup []) H'):=by
 cases o<;>simp only [storeB] at h<;>try (cases h;done)
 split at h
 ·rename_i j off v r h1 h2 h3
  split at h
  ·rename_i bt cs h4
   cases hb:(Nat.beq v.cells.length r.size&&v.flat&&Nat.ble (off+r.size) cs.length) with
   | false=>rw [hb] at h;cases h
   | true =>
    rw [hb] at h;simp at h;subst h
    simp only [Bool.and_eq_true] at hb
    exact store_sem h1 h2 h4 h3 (Nat.eq_of_beq_eq_true hb.1.1) hb.1.2 (Nat.le_of_ble_eq_true hb.2)
  ·cases h
 ·cases h
theorem newBox {ext:Nat→Prop} {w:World} {H:List AObj} {β:List Ent} (hI:Inv ext w H β) (hext:∀ b,ext b→b < w.heap.size) {t:TypeId} {cs:List AVal} {us:Array Value} (hr:RelL (ctx ext w β) cs us.toList) (ho:cs.all AVal.one=true) :
  Came ext w β (one (.ptr H.length 0) (H++[.box t cs])) .ret (.pointer (some ⟨w.heap.size,0,none⟩)) (World.push w (.cells us t)):=by
 have hs:Step w β (World.push w (.cells us t)) (β++[⟨some w.heap.size,0,1,0,0⟩]):=Step.alloc w β _ _ (.inl rfl)
 refine ⟨_,_,β++[⟨some w.heap.size,0,1,0,0⟩],⟨rfl,rfl⟩,?_,hI.alloc hext _ _ _ (.inl rfl) ?_,hs⟩
 ·exact ⟨⟨some w.heap.size,0,1,0,0⟩,w.heap.size,by rw [←hI.len];simp,rfl,rfl,rfl⟩
 ·exact ⟨rfl,ho,w.heap.size,us,rfl,push_top,hr.le hs.le⟩
def allocB (tab:List TyRow) (o:Op) (F:Fr):Option AObj :=
 match o with
 | .alloc t=>match tfind tab t with
  | some r=>cond (r.z.cells.toList.all Value.oneCell') (some (.box t (r.z.cells.toList.map constA))) none
  | none=>none
 | .box t x=>match ev F x with
  | some v=>cond v.flat (some (.box t v.cells)) none
  | none=>none
 | _=>none
theorem allocB_sem [T:TyTab P] {dst:Option Tmp} {o:Op} {type:TypeId} {pos:String} {after:Array Edge} {guard:Option (Nat × Bool)} {F:Fr} {H:List AObj} {a:AObj}
  (h:allocB T.tab o F=some a):OpSem P ⟨dst,o,type,pos,after,guard⟩ F H (one (.ptr H.length 0) (H++[a])):=by
 intro ext w β ρ hI hx hκ hρ
 cases o<;>simp only [allocB] at h<;>try (cases h;done)
 ·rename_i t
  split at h
  ·rename_i r ht
   cases hb:r.z.cells.toList.all Value.oneCell' with
   | false=>rw [hb] at h;cases h
   | true =>
    rw [hb] at h;simp at h;subst h
    have h3:(execOp ρ ⟨dst,.alloc t,type,pos,after,guard⟩).run P w = .ok (.value (.pointer (some ⟨w.heap.size,0,none⟩))) (World.push w (.cells r.z.cells t)):=by
     simp only [execOp,Instr.alloc,Sem.run_bind,run_zero ht,Result.andThen_ok,newVar,newRow,run_newObj,Sem.run_pure]
     rfl
    rw [h3]
    refine newBox hI hx (by simpa using relL_const _ r.z.cells.toList) ?_
    rw [List.all_eq_true] at hb ⊢
    intro x hx
    have hx':x∈r.z.cells.toList.map constA:=by simpa using hx
    obtain ⟨y,hy,rfl⟩:=List.mem_map.1 hx'
    exact constA_one (hb y hy)
  ·cases h
 ·rename_i t x
  split at h
  ·rename_i v hv
   cases hb:v.flat with
   | false=>rw [hb] at h;cases h
   | true =>
    rw [hb] at h;simp at h;subst h
    have h3:(execOp ρ ⟨dst,.box t x,type,pos,after,guard⟩).run P w = .ok (.value (.pointer (some ⟨w.heap.size,0,none⟩))) (World.push w (.cells (ρ x).cells t)):=by
     simp only [execOp,Instr.box,Sem.run_bind,Result.andThen_ok,newVar,newRow,run_newObj,Sem.run_pure]
     rfl
    rw [h3]
    exact newBox hI hx ((hρ x (by simp [Op.operands]) v hv).cells hb).1 (flat_cells hb)
  ·cases h
theorem allocB_dsem [T:TyTab P] {dst:Option Tmp} {o:Op} {type:TypeId} {pos:String} {after:Array Edge} {guard:Option (Nat × Bool)} {F:Fr} {H:List AObj} {a:AObj}
  (h:allocB T.tab o F=some a):DSem P .x ⟨dst,o,type,pos,after,guard⟩ F H (.ptr H.length 0) (H++[a]) :=
 ⟨fun j t cs hj=>by rw [List.getElem?_append_left (List.getElem?_eq_some_iff.1 hj).1];exact hj,allocB_sem h⟩
theorem cellsAt {w:World} {us:Array Value} {t:TypeId} (i:Nat):(World.push w (.cells us t)).cell? ⟨w.heap.size,i,none⟩=us[i]?:=by
 simp only [World.cell?,push_top,Option.isSome_none,Bool.false_eq_true,if_false]
end
end Go.AL
namespace Go.AL
open Go
section
variable {P:Program}
theorem fill_rows {es n:Nat}:∀ (us:List (Nat × Value)) (k:Nat) (cs:Array Value),cs.size=n*es→k+us.length=n→(∀ i p,us[i]? = some p→p.1=k+i∧p.2.cells.size=es) →
  ∃ cs',Instr.fill (fun i=>some (i*es,es)) cs us=some cs'∧cs'.size=cs.size∧(∀ q,q < k*es→cs'[q]? = cs[q]?) ∧
   ∀ i p,us[i]? = some p→∀ q,q < es→cs'[(k+i)*es+q]? = p.2.cells[q]?
 | [],k,cs,_,_,_=>⟨cs,rfl,rfl,fun _ _=>rfl,fun i p h=>by simp at h⟩
 | (j,u)::us,k,cs,hs,hn,h=>by
  obtain ⟨h1,h2⟩:=h 0 (j,u) rfl
  simp only [Nat.add_zero] at h1 h2
  subst h1
  simp only [List.length_cons] at hn
  have hle:j*es+es≤n*es:=by
   rw [←Nat.succ_mul];exact Nat.mul_le_mul_right _ (by omega)
  have hsp:=foldl_splice (j*es) u.cells.toList 0 cs (by simp;omega)
  simp only [Nat.add_zero] at hsp
  have e1:Array.foldl (fun (cs:Array Value) (p:Value × Nat)=>cs.setIfInBounds (j*es+p.2) p.1) cs u.cells.zipIdx=List.foldl (fun (cs:Array Value) (p:Value × Nat)=>cs.setIfInBounds (j*es+p.2) p.1) cs (u.cells.toList.zipIdx 0):=by
   rw [←Array.foldl_toList];simp [Array.toList_zipIdx]
  generalize hc:Array.foldl (fun (cs:Array Value) (p:Value × Nat)=>cs.setIfInBounds (j*es+p.2) p.1) cs u.cells.zipIdx=c1 at e1
  have hl:c1.toList=cs.toList.take (j*es)++u.cells.toList++cs.toList.drop (j*es+u.cells.toList.length):=by rw [e1,hsp]
  have hul:u.cells.toList.length=es:=by simpa using h2
  have hcl:cs.toList.length=n*es:=by simpa using hs
  have hsz:c1.size=cs.size:=by
   rw [←Array.length_toList,hl]
   simp only [List.length_append,List.length_take,List.length_drop,hul,hcl]
   omega
  obtain ⟨cs',g1,g2,g3,g4⟩:=fill_rows (es:=es) (n:=n) us (j+1) c1 (by omega) (by omega) (fun i p hp=>by
   have:=h (i+1) p (by simpa using hp)
   exact ⟨by omega,this.2⟩)
  have hget:∀ q:Nat,c1[q]? = (cs.toList.take (j*es)++u.cells.toList++cs.toList.drop (j*es+es))[q]?:=fun q=>by
   rw [←Array.getElem?_toList,hl,hul]
  refine ⟨cs',?_,by omega,fun q hq=>?_,fun i p hp q hq=>?_⟩
  ·simp only [Instr.fill]
   rw [if_neg (by simp;omega)]
   have:(Array.foldl (fun cs x=>cs.setIfInBounds (j*es+x.snd) x.fst) cs u.cells.zipIdx)=c1:=hc
   rw [this];exact g1
  ·rw [g3 q (by rw [Nat.succ_mul];omega),hget q,List.append_assoc,List.getElem?_append_left (by simp;omega),List.getElem?_take]
   rw [if_pos hq];simp
  ·cases i with
   | zero =>
    simp at hp;subst hp
    simp only [Nat.add_zero]
    rw [g3 _ (by rw [Nat.succ_mul];omega),hget,List.append_assoc,List.getElem?_append_right (by simp;omega),List.getElem?_append_left (by simp;omega)]
    have:j*es+q-(cs.toList.take (j*es)).length=q:=by simp;omega
    rw [this];simp
   | succ i =>
    have:=g4 i p (by simpa using hp) q hq
    rwa [show j+1+i=j+(i+1) by omega] at this
def inOrder:Nat→List (Nat × AVal)→Bool
 | _,[]=>true
 | k,(i,v)::vs=>Nat.beq i k&&v.flat&&inOrder (k+1) vs
def sizesOk (es:Nat):List (Nat × AVal)→Bool
 | []=>true
 | (_,v)::vs=>Nat.beq v.cells.length es&&sizesOk es vs
theorem inOrder_get {c:Ctx} {es:Nat}:∀ {vs:List (Nat × AVal)} {us:List (Nat × Value)} {k:Nat},inOrder k vs=true→sizesOk es vs=true→RelPs c vs us →
  us.length=vs.length∧(∀ (i:Nat) (p:Nat × Value),us[i]? = some p→p.1=k+i∧p.2.cells.size=es)∧(∀ (i:Nat) (v:AVal),(vs.map (·.2))[i]? = some v→∃ p:Nat × Value,us[i]? = some p∧Rel c v p.2)
 | [],us,k,_,_,h=>by cases h;exact ⟨rfl,fun i p h=>by simp at h,fun i v h=>by simp at h⟩
 | (j,v)::vs,us,k,ho,hs,h=>by
  obtain ⟨u,us',rfl,hr,h'⟩:=h
  simp only [inOrder,Bool.and_eq_true] at ho
  simp only [sizesOk,Bool.and_eq_true] at hs
  obtain ⟨h1,h2,h3⟩:=inOrder_get ho.2 hs.2 h'
  have hj:=Nat.eq_of_beq_eq_true ho.1.1
  have hl:=(hr.cells ho.1.2).1.length
  have hsz:=Nat.eq_of_beq_eq_true hs.1
  simp only [Array.length_toList] at hl
  refine ⟨by simp [h1],fun i p hp=>?_,fun i x hx=>?_⟩
  ·cases i with
   | zero=>simp at hp;subst hp;exact ⟨by simpa using hj,by simp only;omega⟩
   | succ i=>have:=h2 i p (by simpa using hp);exact ⟨by omega,this.2⟩
  ·cases i with
   | zero=>simp at hx;subst hx;exact ⟨(j,u),rfl,hr⟩
   | succ i=>obtain ⟨p,g1,g2⟩:=h3 i x (by simpa using hx);exact ⟨p,by simpa using g1,g2⟩
def AVal.free:AVal→Bool
 | .v _ | .sl _ | .slf _ | .slz _=>true
 | .agg cs=>freeL cs
 | .fn _ a b=>freeL a&&freeL b
 | .ifc _ x=>x.free
 | _=>false
where freeL:List AVal→Bool
 | []=>true
 | x::xs=>x.free&&freeL xs
mutual
theorem Rel.bare {c:Ctx}:∀ (a:AVal) (u:Value),a.free=true→Rel c a u→Rel { c with β:=[] } a u
 | .v x,u,_,h=>h
 | .agg cs,u,hf,⟨a,e,r⟩=>⟨a,e,RelL.bare cs _ (by simpa [AVal.free] using hf) r⟩
 | .tup cs,u,hf,_=>by simp [AVal.free] at hf
 | .sl xs,u,_,h=>h
 | .slf xs,u,_,h=>h
 | .slz xs,u,_,h=>h
 | .arr ..,u,hf,_=>by simp [AVal.free] at hf
 | .ptr ..,u,hf,_=>by simp [AVal.free] at hf
 | .pp ..,u,hf,_=>by simp [AVal.free] at hf
 | .ep ..,u,hf,_=>by simp [AVal.free] at hf
 | .mp ..,u,hf,_=>by simp [AVal.free] at hf
 | .hd ..,u,hf,_=>by simp [AVal.free] at hf
 | .bs ..,u,hf,_=>by simp [AVal.free] at hf
 | .fn f fs cs,u,hf,⟨a1,a2,e,r1,r2⟩=>by
   have h:AVal.free.freeL fs=true∧AVal.free.freeL cs=true:=by simpa [AVal.free] using hf
   exact ⟨a1,a2,e,RelL.bare fs _ h.1 r1,RelL.bare cs _ h.2 r2⟩
 | .ifc t x,u,hf,⟨y,e,r⟩=>⟨y,e,Rel.bare x y (by simpa [AVal.free] using hf) r⟩
theorem RelL.bare {c:Ctx}:∀ (asL:List AVal) (us:List Value),AVal.free.freeL asL=true→RelL c asL us→RelL { c with β:=[] } asL us
 | [],us,_,h=>h
 | x::xs,us,hf,⟨u,us',e,r,rs⟩=>by
   have h:x.free=true∧AVal.free.freeL xs=true:=by simpa [AVal.free.freeL] using hf
   exact ⟨u,us',e,Rel.bare x u h.1 r,RelL.bare xs us' h.2 rs⟩
end
def buildB (tab:List TyRow) (o:Op) (F:Fr):Option AVal :=
 match o with
 | .buildSlice t len parts=>match tfind tab t,evp F parts.toList with
  | some ⟨_,.slice e,_,_,_⟩,some vs=>match tfind tab e with
   | some r=>cond (Nat.beq vs.length len&&inOrder 0 vs&&sizesOk r.size vs&&AVal.free.freeL (vs.map (·.2))&&Nat.ble (len*r.size) 100000&&Nat.beq r.z.cells.size r.size) (some (.slf (vs.map (·.2)))) none
   | none=>none
  | _,_=>none
 | _=>none
theorem freeL_get:∀ {l:List AVal} {i:Nat} {v:AVal},AVal.free.freeL l=true→l[i]? = some v→v.free=true
 | [],i,v,_,h=>by simp at h
 | x::xs,i,v,hf,h=>by
  have h':x.free=true∧AVal.free.freeL xs=true:=by simpa [AVal.free.freeL] using hf
  cases i with
  | zero=>simp at h;subst h;exact h'.1
  | succ i=>exact freeL_get h'.2 (by simpa using h)
theorem buildB_dsem [T:TyTab P] {dst:Option Tmp} {o:Op} {type:TypeId} {pos:String} {after:Array Edge} {guard:Option (Nat × Bool)} {F:Fr} {H:List AObj} {v:AVal}
  (h:buildB T.tab o F=some v):DSem P .p ⟨dst,o,type,pos,after,guard⟩ F H v H:=by
 refine ⟨rfl,fun H'=>?_⟩
 intro ext w β ρ hI hx hκ hρ
 cases o<;>simp only [buildB] at h<;>try (cases h;done)
 rename_i t len parts
 split at h
 ·rename_i q1 e q2 q3 q4 vs ht hvs
  split at h
  ·rename_i r hr
   cases hb:(Nat.beq vs.length len&&inOrder 0 vs&&sizesOk r.size vs&&AVal.free.freeL (vs.map (·.2))&&Nat.ble (len*r.size) 100000&&Nat.beq r.z.cells.size r.size) with
   | false=>rw [hb] at h;cases h
   | true =>
    rw [hb] at h;simp at h;subst h
    simp only [Bool.and_eq_true] at hb
    obtain ⟨⟨⟨⟨⟨b1,b2⟩,b3⟩,b4⟩,b5⟩,b6⟩:=hb
    have b1:=Nat.eq_of_beq_eq_true b1
    have b5:=Nat.le_of_ble_eq_true b5
    have b6:=Nat.eq_of_beq_eq_true b6
    have hps:=evp_rel (c:=ctx ext w β) (ρ:=ρ) (fun p hp v hv=>hρ p.2 (by simp [Op.operands];exact ⟨p.1,by simpa using hp⟩) v hv) hvs
    have hm:(parts.map fun (i,x)=>(i,ρ x)).toList=parts.toList.map fun p=>(p.1,ρ p.2):=by simp
    obtain ⟨g1,g2,g3⟩:=inOrder_get b2 b3 hps
    simp only [Nat.zero_add] at g2
    generalize hz:((Array.range (len*r.size)).map (fun i=>r.z.cells[i % r.z.cells.size]!))=zc
    have hzs:zc.size=len*r.size:=by rw [←hz];simp
    obtain ⟨cs',f1,f2,f3,f4⟩:=fill_rows (es:=r.size) (n:=len) (parts.toList.map fun p=>(p.1,ρ p.2)) 0 zc hzs (by omega) (by simpa using g2)
    simp only [Nat.zero_add] at f4
    have h3:(execOp ρ ⟨dst,.buildSlice t len parts,type,pos,after,guard⟩).run P w = .ok (.value (.slice (some ⟨w.heap.size,0,none⟩) len len)) (World.push w (.cells cs' e)):=by
     simp only [execOp,Instr.buildSlice,Sem.run_bind,run_und ht,run_size hr,Result.andThen_ok]
     rw [if_neg (by omega)]
     by_cases h0:len*r.size=0
     ·have hz0:(Array.range (len*r.size)).map (fun i=>(#[]:Array Value)[i % (#[]:Array Value).size]!)=zc:=by
       rw [←hz,h0];simp
      simp only [h0,if_true,Sem.run_pure,Result.andThen_ok,Sem.run_bind]
      rw [h0] at hz0
      rw [hz0,hm,f1]
      simp only [newRow,Sem.run_bind,run_newObj,Result.andThen_ok,Sem.run_pure]
      rfl
     ·simp only [h0,if_false,Sem.run_pure,Result.andThen_ok,Sem.run_bind,run_zero hr]
      rw [hz,hm,f1]
      simp only [newRow,Sem.run_bind,run_newObj,Result.andThen_ok,Sem.run_pure]
      rfl
    rw [h3]
    have hs:Step w β (World.push w (.cells cs' e)) β:=Step.push w β _
    refine ⟨_,H',β,⟨rfl,rfl⟩,?_,hI.push _,hs⟩
    have hle:=hs.le (ext:=ext)
    refine ⟨some ⟨w.heap.size,0,none⟩,r.size,by simp [b1],fun _=>⟨w.heap.size,0,rfl,?_,by simp only [push_size];omega⟩,?_⟩
    ·rintro (hb|hb)
     ·exact absurd (hx _ hb) (by omega)
     ·exact absurd (hI.sep _ hb).2 (by omega)
    ·refine RelR.of_get fun i a ha=>?_
     obtain ⟨p,k1,k2⟩:=g3 i a ha
     obtain ⟨k3,k4⟩:=g2 i p k1
     refine ⟨p.2,Rel.bare a _ (freeL_get b4 ha) (k2.le hle),k4,fun q hq=>?_⟩
     have:=f4 i p k1 q hq
     simp only [Nat.zero_add,rdA]
     rw [cellsAt]
     exact this
  ·cases h
 ·cases h
end
end Go.AL
end
