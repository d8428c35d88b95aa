/-
  Part 5 of the proof texts: the program logic over the model, then the contracts of the functions that the laws reach. No conditions.
-/
import Derived.Test.YteefnlbapebamaaGreatDoorA4
import Derived.RecoverIn
import Derived.ChangeKeysEq
import Derived.KernelRfl
import Derived.Test.YteefnlbapebamaaGreatDoorProg
import Derived.Shelf.Small.Strs
import Derived.Shelf.Small.Wraps
import Derived.Shelf.Strconv.Itoa3
import Derived.Shelf.Strconv.AtoiAll
import Derived.Shelf.Strings.Search3
import Derived.Shelf.Strings.Count
import Derived.Shelf.Strings.Split
import Derived.Shelf.Strings.FuncGrows
import Derived.Shelf.LaysM
import Derived.Shelf.LaysC
import Derived.Shelf.Strings.Builder1
import Derived.Shelf.Strings.OnBuilder
import Derived.Lib.SmallJoins
set_option linter.unusedVariables false
set_option linter.unusedSimpArgs false
section
namespace Go.AL
open Go
section
variable {P : Program}
theorem opIn_mono {Fn : Fence} {n : Nat} {o : Oper} {a : Act} {w : World} {K : Act → World → Prop} {Q Q' : Exit → Act → World → Prop} (h : o.wpIn Fn n P a w K Q) (hq : ∀ e a w, Q e a w → Q' e a w) : o.wpIn Fn n P a w K Q' := by
 refine ⟨h.1, ?_⟩
 have h2 := h.2
 generalize (o.semAt Fn.round a.eval).run P w = r at h2
 cases r with
 | ok x w' =>
  cases x <;> simp only [Oper.uponIn] at h2 ⊢ <;> try exact h2
  ·refine ⟨h2.1, CallsIn.mono h2.2 fun e w'' he => ?_⟩
   cases e with
   | returned v => exact he
   | panicked ch => exact hq _ _ _ he
   | outgrown => exact let ⟨a, w, h⟩ := he; ⟨a, w, hq _ _ _ h⟩
  ·refine ⟨h2.1, RoundIn.mono h2.2 fun e w'' he => ?_⟩
   cases e with
   | returned v => exact he
   | panicked ch => exact hq _ _ _ he
   | outgrown => exact let ⟨a, w, h⟩ := he; ⟨a, w, hq _ _ _ h⟩
 | halt x w' =>
  cases x <;> simp only [Oper.uponIn] at h2 ⊢ <;> first | exact hq _ _ _ h2 | exact h2
def ModeIs (c : Ctx) : Option AVal → FrameMode → Prop
 | none, u => u = .returning
 | some v, u => ∃ x, u = .panicking [{ v := x, recovered := false }] ∧ Rel c v x
def rvOf : Option AVal → AVal
 | none => .v .nilIface
 | some v => v
structure ADCalls (P : Program) (g : FuncId) (args : List AVal) (H : List AObj) (m : Option AVal) (H' : List AObj) : Prop where
 enters : Enters P g
 calls : ∀ (ext : Nat → Prop) (w : World) (β : List Ent) (us : List Value) (u : FrameMode), Inv ext w H β → (∀ b, ext b → b < w.heap.size) → RelL (ctx ext w β) args us → ModeIs (ctx ext w β) m u →
  CallsDIn Fence.wide 0 P g us.toArray u w fun e u' w' => (∃ v, e = .returned v) ∧ settle u' = .returning ∧ ∃ β', Inv ext w' H' β' ∧ Step w β w' β'
theorem start_st {G : Gh} {ext : Nat → Prop} {w : World} {β : List Ent} {H : List AObj} {args : List AVal} {us : List Value} {N k : Nat} (hG : G = ⟨w, β, ext, N, [], none, true⟩) (hk : k = N) (hl : args.length ≤ N) (hI : Inv ext w H β) (hx : ∀ b, ext b → b < w.heap.size) (hr : RelL (ctx ext w β) args us) :
  StB G β (params 0 args) H { tmps := us.toArray ++ Array.replicate (k - us.toArray.size) undef, defers := [] } w := by
 subst hG; subst hk
 have hlen := hr.length
 refine ⟨hI, Step.refl w β, hx, ?_, ⟨[], List.nodup_nil, rfl, fun r hr => by simp at hr, fun _ => rfl⟩, fun t v ht => ?_⟩
 ·show (us.toArray ++ Array.replicate (k - us.toArray.size) undef).size = k
  simp; omega
 ·obtain ⟨_, h1⟩ := params_get ht
  rw [Nat.sub_zero] at h1
  obtain ⟨u, h2, h3⟩ := hr.get h1
  have hlt : t < us.length := (List.getElem?_eq_some_iff.1 h2).1
  refine ⟨u, ?_, h3⟩
  show (us.toArray ++ Array.replicate (k - us.toArray.size) undef)[t]? = some u
  rw [Array.getElem?_append_left (by simpa using hlt)]
  simpa using h2
theorem adcalls_intro [T : TyTab P] {g : FuncId} {fn : Func} {X : Code} {args : List AVal} {H H' : List AObj} {m : Option AVal} {N i0 t t2 : Nat} {ty ty2 : TypeId} {p1 p2 : String} {af1 af2 : Array Edge}
  (hf : P.funcs[g]? = some fn)
  (hb : fn.body = some ((Code.region i0 #[⟨some t, .call { callee := .builtin .recover, args := #[], argTypes := #[] }, ty, p1, af1, none⟩, ⟨some t2, .assign (.tmp t), ty2, p2, af2, none⟩] false).seq X))
  (hname : (fn.name == "runtime.NumGoroutine") = false) (hN : fn.ntmps = N) (hl : Nat.ble args.length N = true) (hrs : fn.results.toList = []) (ht : Nat.blt t N = true) (ht2 : Nat.blt t2 N = true)
  (h : ∀ w0 β0 ext, β0.length = H.length → J P ⟨w0, β0, ext, N, [], none, true⟩ (BodyQ T.tab [] H.length (one (.tup []) H')) (.c X .nil) ((t2, rvOf m) :: (t, rvOf m) :: params 0 args) H) : ADCalls P g args H m H' := by
 refine ⟨⟨fn, hf, hname, by rw [hb]; rfl⟩, fun ext w β us u hI hx hr hm => ?_⟩
 have hl' := Nat.le_of_ble_eq_true hl
 have ht' := Nat.le_of_ble_eq_true ht
 have ht2' := Nat.le_of_ble_eq_true ht2
 have hst := start_st (G := ⟨w, β, ext, N, [], none, true⟩) rfl hN hl' hI hx hr
 generalize hG : (⟨w, β, ext, N, [], none, true⟩ : Gh) = G at hst
 refine callsDIn_of_wpSIn hf hb trivial fun c₀ cs hu => wpSIn_seq (wpSIn_region ?_)
 -- what recover gives
 have hrec : ∃ x u', Rel (ctx ext w β) (rvOf m) x ∧ settle u' = .returning ∧
   ((recoverD (c₀ :: cs) = none ∧ x = .nilIface ∧ c₀ = { c₀ with mode := u' }) ∨ recoverD (c₀ :: cs) = some (x, { c₀ with mode := u' } :: cs)) := by
  cases m with
  | none =>
   have hm : u = .returning := hm
   refine ⟨.nilIface, .returning, rfl, rfl, .inl ⟨?_, rfl, ?_⟩⟩
   ·simp [recoverD, hu, hm]
   ·rw [← hm, ← hu]
  | some v =>
   obtain ⟨x, hm, hv⟩ := hm
   refine ⟨x, .panicking [{ v := x, recovered := true }], hv, rfl, .inr ?_⟩
   simp [recoverD, hu, hm]
 obtain ⟨x, u', hx1, hset, hrec⟩ := hrec
 have key : ∀ cs1, cs1 = ({ c₀ with mode := u' } : Frame) :: cs → ∀ a2 w2, w2 = w → StB G β ((t2, rvOf m) :: (t, rvOf m) :: params 0 args) H a2 w2 →
   X.wpSIn Fence.wide 0 P (bodyPostS P fn c₀ cs fun e u' w' => (∃ v, e = .returned v) ∧ settle u' = .returning ∧ ∃ β', Inv ext w' H' β' ∧ Step w β w' β') a2 cs1 w2 := by
  rintro _ rfl a2 w2 rfl hs
  have hJ := h w2 β ext hI.len
  rw [hG] at hJ
  have hrd : fz G.rd = Fence.wide := by rw [← hG]; rfl
  have hw := hJ a2 w2 ⟨β, hs⟩
  rw [hrd] at hw
  refine wpSIn_of_wpIn rfl (wpIn_mono hw fun e a' w' he => ?_)
  have fin : ∀ a' w', (∃ F' H1, (∃ r r' Ho ks wk, resA T.tab [] F' H1 = some r ∧ keepOk H.length ks = true ∧ finish H.length ks wk H1 r = some (r', Ho) ∧ one (.tup []) H' (.ret r') Ho) ∧ St G F' H1 a' w') →
    a'.defers = [] ∧ ∃ u1, ({ c₀ with mode := u' } : Frame) :: cs = { c₀ with mode := u1 } :: cs ∧ ∃ v, (results fn a'.tmps).run P w' = .ok v w' ∧ ((∃ x, Ending.returned v = .returned x) ∧ settle u1 = .returning ∧ ∃ β', Inv ext w' H' β' ∧ Step w2 β w' β') := by
   rintro a' w' ⟨F', H1, ⟨r, r', Ho, ks, wk, h1, h2, h3, h4⟩, β', hs'⟩
   have hr0 : r' = .tup [] ∧ Ho = H' := by
    obtain ⟨q1, q2⟩ := h4
    injection q1 with q1
    exact ⟨q1, q2⟩
   obtain ⟨ms, m1, m2, m3, m4⟩ := hs'.defers
   have hms : ms = [] := m4 (by rw [← hG])
   subst hms
   obtain ⟨v, h5, h6⟩ := res_run (fn := fn) hs' (by rw [hrs]; exact h1)
   have hst2 : Step w2 β w' β' := by have := hs'.step; rw [← hG] at this; exact this
   have hI2 : Inv ext w' H1 β' := by have := hs'.inv; rw [← hG] at this; exact this
   have h6 : Rel (ctx ext w' β') r v := by rw [← hG] at h6; exact h6
   obtain ⟨β'', g1, g2, g3, _⟩ := finish_came1 hI2 hst2 (by rw [hI.len]; exact Nat.le_refl _) (by have := hst2.lens; rw [← hI.len]; exact this) h6 h2 h3
   refine ⟨by rw [m2, ← hG]; rfl, u', rfl, v, h5, ⟨_, rfl⟩, hset, β'', ?_, g3⟩
   rw [← hr0.2]; exact g2
  cases e with
  | normal => exact fin a' w' he
  | ret => exact fin a' w' he
  | exit id => obtain ⟨F', H', h1, _⟩ := he; exact h1.elim
  | goto l => exact he.elim
  | outgrown => exact he.elim
  | panic ch =>
   obtain ⟨v, F', H1, β', u, ⟨r', Ho, ks, wk, h2, h3, h4⟩, _⟩ := he
   cases h4.1
 have hget : ∀ (a : Act) (v : Value) (n : Nat), n < a.tmps.size → (a.put (some n) v).eval (.tmp n) = v := fun a v n hn => by
  simp [Act.eval, Act.put, Array.getElem?_setIfInBounds, hn]
 have hsz : t < ({ tmps := us.toArray ++ Array.replicate (fn.ntmps - us.toArray.size) undef, defers := [] } : Act).tmps.size := by rw [hst.size, ← hG]; exact ht'
 have hfin : ∀ (a : Act), StB G β (params 0 args) H a w → ({ tmps := us.toArray ++ Array.replicate (fn.ntmps - us.toArray.size) undef, defers := [] } : Act) = a →
   StB G β ((t2, rvOf m) :: (t, rvOf m) :: params 0 args) H ((a.put (some t) x).put (some t2) x) w := fun a hs _ => by
  have hxx : Rel (ctx G.ext w β) (rvOf m) x := by rw [← hG]; exact hx1
  exact (hs.put (d := some t) hxx (fun s e => by injection e with e; subst e; rw [← hG]; exact ht')).put (d := some t2) hxx (fun s e => by injection e with e; subst e; rw [← hG]; exact ht2')
 have hfin := hfin _ hst rfl
 generalize ({ tmps := us.toArray ++ Array.replicate (fn.ntmps - us.toArray.size) undef, defers := [] } : Act) = a0 at *
 show wpOpsSIn Fence.wide 0 P _ _ [0, 1] a0 (c₀ :: cs) w
 rcases hrec with ⟨hrec, rfl, hc⟩ | hrec
 ·simp only [wpOpsSIn, List.getElem?_toArray, List.getElem?_cons_zero, List.getElem?_cons_succ, Region.wanted]
  refine ⟨fun _ _ => trivial, ?_⟩
  simp only [if_true]
  have e1 : (execOp a0.eval ⟨some t, .call { callee := .builtin .recover, args := #[], argTypes := #[] }, ty, p1, af1, none⟩).run P w = .ok .recover w := rfl
  rw [e1]
  simp only [hrec]
  refine ⟨fun _ _ => trivial, ?_⟩
  have e2 : (execOp (a0.put (some t) .nilIface).eval ⟨some t2, .assign (.tmp t), ty2, p2, af2, none⟩).run P w = .ok (.value .nilIface) w := by
   show Result.ok (Next.value ((a0.put (some t) .nilIface).eval (.tmp t))) w = _
   rw [hget _ _ _ hsz]
  rw [e2]
  exact key _ (by rw [← hc]) _ w rfl hfin
 ·simp only [wpOpsSIn, List.getElem?_toArray, List.getElem?_cons_zero, List.getElem?_cons_succ, Region.wanted]
  refine ⟨fun _ _ => trivial, ?_⟩
  simp only [if_true]
  have e1 : (execOp a0.eval ⟨some t, .call { callee := .builtin .recover, args := #[], argTypes := #[] }, ty, p1, af1, none⟩).run P w = .ok .recover w := rfl
  rw [e1]
  simp only [hrec]
  refine ⟨fun _ _ => trivial, ?_⟩
  have e2 : (execOp (a0.put (some t) x).eval ⟨some t2, .assign (.tmp t), ty2, p2, af2, none⟩).run P w = .ok (.value x) w := by
   show Result.ok (Next.value ((a0.put (some t) x).eval (.tmp t))) w = _
   rw [hget _ _ _ hsz]
  rw [e2]
  exact key _ rfl _ w rfl hfin
theorem panic_sem [T : TyTab P] {dst : Option Tmp} {x : Operand} {type : TypeId} {pos : String} {after : Array Edge} {guard : Option (Nat × Bool)} {F : Fr} {H : List AObj} {t : TypeId} {v : AVal} (hx : ev F x = some (.ifc t v)) :
  OpSem P ⟨dst, .panic x, type, pos, after, guard⟩ F H (fun r H' => r = .pan (.ifc t v) ∧ H' = H) := by
 intro ext w β ρ hI hext hκ hρ
 have hr := hρ x (by simp [Op.operands]) _ hx
 obtain ⟨y, hy, hv⟩ := hr
 have h4 : (execOp ρ ⟨dst, .panic x, type, pos, after, guard⟩).run P w = .halt (.panic (.iface t y)) w := by
  simp only [execOp, hy, Instr.panic]
  rfl
 rw [h4]
 exact ⟨_, H, β, ⟨rfl, rfl⟩, ⟨y, rfl, hv⟩, hI, Step.refl w β⟩
theorem post_pan {G : Gh} {Q : APost} {F : Fr} {H : List AObj} {v : AVal} : ∀ {k : Kt}, Q (.panic v) F H → post P G Q k (.panic v) F H
 | .nil, h => h
 | .seq y k, h => post_pan (k := k) h
 | .blk id k, h => post_pan (k := k) h
 | .lp R k, h => post_pan (k := k) h
theorem jpanS {G : Gh} {Q : APost} {F : Fr} {H H1 : List AObj} {s s' : Pt} {ops : Array Oper} {o : Oper} {v : AVal} (h : nextO s = some (ops, o, none, s')) (hg : guardA ops F o = some true)
  (hd : dstOk G.n o.dst = true) (ho : OpSem P o F H (fun r H' => r = .pan v ∧ H' = H1)) (next : Q (.panic v) F H1) : J P G Q s F H := by
 cases s with
 | c => cases h
 | e => cases h
 | l os l k =>
  simp only [nextO] at h
  split at h
  ·cases h
  ·injection h with h; injection h with h2 h3; injection h3 with h3 h4; injection h4 with h4 h5; subst h2; subst h3; subst h5
   exact ⟨dstOk_ok hd, .inl ⟨hg, _, ho, fun r H' ⟨h1, h2⟩ => by subst h1; subst h2; exact post_pan next⟩⟩
 | d os l k =>
  simp only [nextO] at h
  split at h
  ·cases h
  ·injection h with h; injection h with h2 h3; injection h3 with h3 h4; injection h4 with h4 h5; cases h4
theorem jpan [T : TyTab P] {G : Gh} {Q : APost} {F : Fr} {H : List AObj} {s s' : Pt} {ops : Array Oper} {dst : Option Tmp} {x : Operand} {type : TypeId} {pos : String} {after : Array Edge} {guard : Option (Nat × Bool)} {t : TypeId} {v : AVal} (h : nextO s = some (ops, ⟨dst, .panic x, type, pos, after, guard⟩, none, s'))
  (hx : ev F x = some (.ifc t v)) (hg : guardA ops F ⟨dst, .panic x, type, pos, after, guard⟩ = some true) (hd : dstOk G.n dst = true) (next : Q (.panic (.ifc t v)) F H) : J P G Q s F H :=
 jpanS h hg hd (panic_sem hx) next
def onep (v : AVal) (H' : List AObj) : Eff := fun r H => r = .pan v ∧ H = H'
theorem jbp {G : Gh} {Q : APost} {F : Fr} {H H' : List AObj} (σ : List Nat) {f : FuncId} {args0 args : List AVal} {v v' : AVal} {H0 H1 : List AObj} (hc : ACalls P f args0 H0 (onep v H1)) {s s' : Pt} {ops : Array Oper} {dst : Option Tmp} {o : Op} {type : TypeId} {pos : String} {after : Array Edge} {guard : Option (Nat × Bool)}
  (h : nextO s = some (ops, ⟨dst, o, type, pos, after, guard⟩, none, s')) (ho : callO F o = some (f, args)) (hg : guardA ops F ⟨dst, o, type, pos, after, guard⟩ = some true) (hσ : sigA σ H H0 args0 args)
  (hv : nrm (rnV (tau σ H.length) v) = some v') (hH : nrmH (putBack (tau σ H.length) σ H H1) = some H') (hd : dstOk G.n dst = true) (next : Q (.panic v') F H') : J P G Q s F H := by
 refine jpanS h hg hd ?_ next
 obtain ⟨h1, h2, h3, h4, h5, h6⟩ := hσ
 have hf := hc.from σ h2 h3 h4 h5 (fun i j hij => by
  have := congrArg (fun l => l[i]?) h6
  simp only [List.getElem?_map, hij, Option.map_some] at this
  cases hi : H0[i]? with
  | none => rw [hi] at this; cases this
  | some o => rw [hi] at this; simpa using this)
 rw [h1] at hf
 refine callO_sem ho (hf.mono ?_)
 rintro r G ⟨r0, Ho, ⟨rfl, rfl⟩, _, rfl, rfl⟩
 exact ⟨by rw [nrm_eq _ hv], (nrmH_eq hH).symm⟩
theorem qpan {tab : List TyRow} {rs : List ResultVar} {n : Nat} {v v' w : AVal} {F : Fr} {H H' Hv : List AObj} (ks : List Nat) (wk : Bool) (h2 : keepOk n ks = true) (h3 : finish n ks wk H v = some (v', H')) (h4 : v' = w) (h5 : H' = Hv) : BodyQ tab rs n (onep w Hv) (.panic v) F H :=
 ⟨v', H', ks, wk, h2, h3, by rw [h4]; exact ⟨rfl, h5⟩⟩
section
variable [T : TyTab P] {F : Fr} {H : List AObj} {dst : Option Tmp} {type : TypeId} {pos : String} {after : Array Edge} {guard : Option (Nat × Bool)} {t yt : TypeId} {x : Operand} {r : TyRow} {ms : Array (String × TypeId)}
theorem ne_nilI (hx : ev F x = some (.v .nilIface)) (ht : tfind T.tab t = some r) (hd : r.d = .interface ms) : DSem P .p ⟨dst, .binOp .neq t x (.const .nilIface) yt, type, pos, after, guard⟩ F H (.v (.bool false)) H := by
 refine ⟨rfl, fun H' => Says.sem (says_bin (b := .v .nilIface) hx rfl (fun c u u' w r1 r2 => ?_) ⟨_, rfl⟩) H'⟩
 cases (r1 : u = _); cases (r2 : u' = _)
 have hu := ty_und ht
 rw [hd] at hu
 have h : ∀ d : Nat, (Op.equalIn (d + 1) t .nilIface .nilIface).run P w = .ok true w := fun d => by simp [Op.equalIn, run_underlying hu]
 have hg : (eqGuard .neq t x (.const .nilIface) .nilIface .nilIface).run P w = .ok () w := by simp [eqGuard]
 simp only [Sem.run_bind, hg, Result.andThen_ok, binOp]
 simp [Op.equal, Op.maxDepth, h 9999]
theorem ne_ifc {tx : TypeId} {v : AVal} (hx : ev F x = some (.ifc tx v)) (ht : tfind T.tab t = some r) (hd : r.d = .interface ms) : DSem P .p ⟨dst, .binOp .neq t x (.const .nilIface) yt, type, pos, after, guard⟩ F H (.v (.bool true)) H := by
 refine ⟨rfl, fun H' => Says.sem (says_bin (b := .v .nilIface) hx rfl (fun c u u' w r1 r2 => ?_) ⟨_, rfl⟩) H'⟩
 obtain ⟨y, rfl, _⟩ := r1
 cases (r2 : u' = _)
 have hu := ty_und ht
 rw [hd] at hu
 have h : ∀ d : Nat, (Op.equalIn (d + 1) t (.iface tx y) .nilIface).run P w = .ok false w := fun d => by simp [Op.equalIn, run_underlying hu]
 have hg : (eqGuard .neq t x (.const .nilIface) (.iface tx y) .nilIface).run P w = .ok () w := by simp [eqGuard]
 simp only [Sem.run_bind, hg, Result.andThen_ok, binOp]
 simp [Op.equal, Op.maxDepth, h 9999]
theorem ta_ok {tx : TypeId} {v : AVal} (hx : ev F x = some (.ifc t v)) (ht : tfind T.tab t = some r) (hd : ∀ ms, r.d ≠ .interface ms) : DSem P .p ⟨dst, .typeAssert x tx t true, type, pos, after, guard⟩ F H (.tup [v, .v (.bool true)]) H := by
 refine ⟨rfl, fun H' => ?_⟩
 intro ext w β ρ hI hext hκ hρ
 obtain ⟨y, hy, hv⟩ := hρ x (by simp [Op.operands]) _ hx
 have h4 : (execOp ρ ⟨dst, .typeAssert x tx t true, type, pos, after, guard⟩).run P w = .ok (.value (.tuple #[y, .bool true])) w := by
  simp only [execOp, hy, Instr.typeAssert, Sem.run_bind, run_und ht, Result.andThen_ok]
  split <;> first | rfl | (exfalso; simp_all) | simp_all
 rw [h4]
 exact came_same hI ⟨_, rfl, y, _, rfl, hv, _, [], rfl, rfl, rfl⟩
end
def Only (K : Fr → List AObj → Prop) : APost
 | .normal, F, H => K F H
 | _, _, _ => False
def EndD (P : Program) (n : Nat) (Q : Eff) (g : FuncId) (ca : List AVal) : APost
 | .normal, _, H | .ret, _, H => ∃ Hc Ho ks wk, ADCalls P g ca H none Hc ∧ keepOk n ks = true ∧ finish n ks wk Hc (.tup []) = some (.tup [], Ho) ∧ Q (.ret (.tup [])) Ho
 | .panic v, _, H => ∃ Hc Ho ks wk, ADCalls P g ca H (some v) Hc ∧ keepOk n ks = true ∧ finish n ks wk Hc (.tup []) = some (.tup [], Ho) ∧ Q (.ret (.tup [])) Ho
 | _, _, _ => False
theorem lift_only {G : Gh} {K : Fr → List AObj → Prop} {C : Exit → Act → World → Prop} {y : Code} {Q : Exit → Act → World → Prop} (h : ∀ a w F H, K F H → St G F H a w → C .normal a w) : ∀ e a w, lift G (Only K) e a w → C e a w
 | .normal, a, w, ⟨F, H, hk, hs⟩ => h a w F H hk hs
 | .exit _, _, _, ⟨_, _, hk, _⟩ => hk.elim
 | .ret, _, _, ⟨_, _, hk, _⟩ => hk.elim
 | .panic _, _, _, ⟨_, _, _, _, _, hk, _⟩ => hk.elim
 | .goto _, _, _, hk => hk.elim
 | .outgrown, _, _, hk => hk.elim
theorem acalls_try [T : TyTab P] {f : FuncId} {fn : Func} {r0 r1 B : Code} {args : List AVal} {H : List AObj} {Q : Eff} {N i t : Nat} {mf : Oper} {ty : TypeId} {p : String} {af : Array Edge}
  (hf : P.funcs[f]? = some fn)
  (hb : fn.body = some (r0.seq (r1.seq ((Code.region i #[mf, ⟨none, .defer { callee := .value (.tmp t), args := #[], argTypes := #[] }, ty, p, af, none⟩] false).seq B))))
  (hname : (fn.name == "runtime.NumGoroutine") = false) (hN : fn.ntmps = N) (hl : Nat.ble args.length N = true) (hrs : fn.results.toList = [])
  (h : ∀ w0 β0 ext, β0.length = H.length → J P ⟨w0, β0, ext, N, [], none, true⟩ (Only fun F1 H1 => J P ⟨w0, β0, ext, N, [], none, true⟩ (Only fun F2 H2 =>
    J P ⟨w0, β0, ext, N, [], none, true⟩ (Only fun F3 H3 => ∃ g first cap, ev F3 (.tmp t) = some (.fn (.func g) first cap) ∧ Enters P g ∧
     ∀ w1 β1 d, J P ⟨w1, β1, ext, N, [d], none, true⟩ (EndD P H.length Q g (first ++ cap)) (.c B .nil) F3 H3)
     (.l #[mf, ⟨none, .defer { callee := .value (.tmp t), args := #[], argTypes := #[] }, ty, p, af, none⟩] [mf] .nil) F2 H2) (.c r1 .nil) F1 H1) (.c r0 .nil) (params 0 args) H) : ACalls P f args H Q := by
 refine ⟨⟨fn, hf, hname, by rw [hb]; rfl⟩, fun ext w β us hI hx hr => ?_⟩
 have hst := start_st (G := ⟨w, β, ext, N, [], none, true⟩) rfl hN (Nat.le_of_ble_eq_true hl) hI hx hr
 refine (callsIn_wide (n := 0)).1 (callsIn_of_wp_marks hf hb trivial ?_)
 refine wpIn_seq (wpIn_mono (h w β ext hI.len _ w ⟨β, hst⟩) (lift_only (y := .skip) (Q := fun _ _ _ => False) fun a1 w1 F1 H1 h1 hs1 => ?_))
 refine wpIn_seq (wpIn_mono (h1 a1 w1 hs1) (lift_only (y := .skip) (Q := fun _ _ _ => False) fun a2 w2 F2 H2 h2 hs2 => ?_))
 refine wpIn_seq (wpIn_region_list ?_)
 obtain ⟨hd, hx2⟩ := h2
 obtain ⟨β2, hs2'⟩ := id hs2
 show wpListIn Fence.wide 0 P _ _ [_, _] a2 w2
 have tail : ∀ a3 w3 F3 H3, (∃ g first cap, ev F3 (.tmp t) = some (.fn (.func g) first cap) ∧ Enters P g ∧ ∀ w1 β1 d, J P ⟨w1, β1, ext, N, [d], none, true⟩ (EndD P H.length Q g (first ++ cap)) (.c B .nil) F3 H3) →
   St ⟨w, β, ext, N, [], none, true⟩ F3 H3 a3 w3 →
   wpListIn Fence.wide 0 P #[mf, ⟨none, .defer { callee := .value (.tmp t), args := #[], argTypes := #[] }, ty, p, af, none⟩] (Exit.then (B.wpIn Fence.wide 0 P (bodyPostM Fence.wide 0 P fn (Ended ext w β Q))) (bodyPostM Fence.wide 0 P fn (Ended ext w β Q)))
    [⟨none, .defer { callee := .value (.tmp t), args := #[], argTypes := #[] }, ty, p, af, none⟩] a3 w3 := by
  rintro a3 w3 F3 H3 ⟨g, first, cap, hev, hen, hB⟩ ⟨β3, hs3⟩
  obtain ⟨ms, m1, m2, m3, m4⟩ := hs3.defers
  have hms : ms = [] := m4 rfl
  subst hms
  have hd3 : a3.defers = [] := m2
  obtain ⟨c1, c2, hu, r1', r2'⟩ := hs3.ev hev
  unfold wpListIn
  rw [if_pos (by rfl)]
  refine ⟨fun _ _ => trivial, ?_⟩
  have hex : ((⟨none, .defer { callee := .value (.tmp t), args := #[], argTypes := #[] }, ty, p, af, none⟩ : Oper).semAt Fence.wide.round a3.eval).run P w3 = .ok (.defer { target := .fn (.func g) c2, args := c1 }) w3 := by
   have hsem : ∀ o : Oper, Oper.semAt Fence.wide.round a3.eval o = execOp a3.eval o := fun o => rfl
   rw [hsem]
   simp only [execOp, resolve, hu, Deferred.ofValue, Sem.run_bind, Sem.run_pure, Result.andThen_ok]
   simp
  rw [hex, Oper.uponIn_defer]
  unfold wpListIn
  rw [hd3]
  show B.wpIn Fence.wide 0 P (bodyPostM Fence.wide 0 P fn (Ended ext w β Q)) { a3 with defers := [{ target := .fn (.func g) c2, args := c1 }] } w3
  have hs4 : St ⟨w3, β3, ext, N, [{ target := .fn (.func g) c2, args := c1 }], none, true⟩ F3 H3 { a3 with defers := [{ target := .fn (.func g) c2, args := c1 }] } w3 :=
   ⟨β3, hs3.inv, Step.refl w3 β3, hs3.extOk, hs3.size, ⟨[], List.nodup_nil, rfl, fun r hr => by simp at hr, fun _ => rfl⟩, fun s v hv => hs3.get s v hv⟩
  refine wpIn_mono (hB w3 β3 _ _ w3 hs4) fun e a4 w4 he => ?_
  -- the closure
  have fin : ∀ (m : Option AVal) (u : FrameMode) (F4 : Fr) (H4 Hc Ho : List AObj) (ks : List Nat) (wk : Bool) (β4 : List Ent), u ≠ .run → ModeIs (ctx ext w4 β4) m u → StB ⟨w3, β3, ext, N, [{ target := .fn (.func g) c2, args := c1 }], none, true⟩ β4 F4 H4 a4 w4 →
    ADCalls P g (first ++ cap) H4 m Hc → keepOk H.length ks = true → finish H.length ks wk Hc (.tup []) = some (.tup [], Ho) → Q (.ret (.tup [])) Ho → LeavesInM Fence.wide 0 P fn a4.tmps (Ended ext w β Q) a4.defers u w4 := by
   intro m u F4 H4 Hc Ho ks wk β4 hu4 hm hs4 hA hk hfi hQ
   obtain ⟨ms, q1, q2, q3, q4⟩ := hs4.defers
   have hms : ms = [] := q4 rfl
   subst hms
   have hd4 : a4.defers = [{ target := .fn (.func g) c2, args := c1 }] := q2
   rw [hd4]
   have hstep4 : Step w3 β3 w4 β4 := hs4.step
   have hrel : RelL (ctx ext w4 β4) (first ++ cap) (c1.toList ++ c2.toList) := (r1'.append r2').le hstep4.le
   have hcall := hA.calls ext w4 β4 (c1.toList ++ c2.toList) u hs4.inv hs4.extOk hrel hm
   have harr : (c1.toList ++ c2.toList).toArray = c1 ++ c2 := by apply Array.ext'; simp
   rw [harr] at hcall
   refine ⟨hu4, .inr ⟨fun h => by simp [Fence.wide] at h, _, _, g, c1 ++ c2, rfl, ?_, fun _ _ => trivial, CallsDIn.mono hcall fun e u' w5 ⟨⟨v, hv⟩, hset, β5, hI5, hs5⟩ => ?_⟩⟩
   ·simp only [invoke]
    exact callFunc_run hen _ w4
   ·subst hv
    show LeavesIn Fence.wide 0 P fn a4.tmps (Ended ext w β Q) [] (settle u') w5
    rw [hset]
    refine ⟨.tuple #[], by unfold results; rw [Array.mapM_eq_mapM_toList, hrs]; simp only [List.mapM_nil, Sem.run_bind, Sem.run_map, Sem.run_pure]; rfl, ?_⟩
    exact Came.mono (fun q G' ⟨e1, e2⟩ => by subst e1; subst e2; exact hQ) (finish_came (k := .ret) hI5 ((hs3.step.trans hstep4).trans hs5) hI.len (show Rel _ (.tup []) (.tuple #[]) from ⟨#[], rfl, rfl⟩) hk hfi)
  cases e with
  | normal =>
   obtain ⟨F4, H4, ⟨Hc, Ho, ks, wk, k1, k2, k3, k4⟩, β4, hs4⟩ := he
   exact fin none .returning F4 H4 Hc Ho ks wk β4 (by simp) rfl hs4 k1 k2 k3 k4
  | ret =>
   obtain ⟨F4, H4, ⟨Hc, Ho, ks, wk, k1, k2, k3, k4⟩, β4, hs4⟩ := he
   exact fin none .returning F4 H4 Hc Ho ks wk β4 (by simp) rfl hs4 k1 k2 k3 k4
  | exit id => obtain ⟨_, _, h1, _⟩ := he; exact h1.elim
  | goto l => exact he.elim
  | outgrown => exact he.elim
  | panic ch =>
   obtain ⟨v, F4, H4, β4, u, ⟨Hc, Ho, ks, wk, k1, k2, k3, k4⟩, hs4, hch, hrel⟩ := he
   exact fin (some v) (.panicking ch) F4 H4 Hc Ho ks wk β4 (by simp) ⟨u, by rw [hch], hrel⟩ hs4 k1 k2 k3 k4
 unfold wpListIn
 rcases hx2 with ⟨hg, res, ho, hres⟩ | ⟨hg, hres⟩
 ·rw [if_pos (guardA_ok hs2' hg)]
  refine opIn_mono (op_wp (Q := fun _ _ _ => False) hd ho hs2 fun r H' hr => ?_) (fun e a w he => by
   cases e with
   | normal => obtain ⟨_, _, h1, _⟩ := he; exact h1.elim
   | exit id => obtain ⟨_, _, h1, _⟩ := he; exact h1.elim
   | ret => obtain ⟨_, _, h1, _⟩ := he; exact h1.elim
   | panic ch => obtain ⟨_, _, _, _, _, h1, _⟩ := he; exact h1.elim
   | goto l => exact he.elim
   | outgrown => exact he.elim)
  have := hres r H' hr
  cases r with
  | ret v => exact fun a w hs => tail a w _ _ this hs
  | pan v => exact this
 ·rw [if_neg (by rw [guardA_ok hs2' hg]; simp)]
  exact ⟨fun _ _ => trivial, tail _ _ _ _ hres ⟨β2, hs2'.undef hd⟩⟩
theorem aw_weak {G : Gh} {c : Code} {Q : APost} {F : Fr} {H : List AObj} (t : Nat) {v v' : AVal} (h1 : fget F t = some v) (hr : ∀ (c : Ctx) u, Rel c v u → Rel c v' u) (h : AW P G c Q ((t, v') :: F) H) : AW P G c Q F H := by
 rintro a w ⟨β, hs⟩
 refine h a w ⟨β, hs.inv, hs.step, hs.extOk, hs.size, hs.defers, fun s x hx => ?_⟩
 simp only [fget] at hx
 cases hb : Nat.beq t s with
 | true =>
  rw [hb] at hx; simp at hx; subst hx
  have := Nat.eq_of_beq_eq_true hb
  subst this
  obtain ⟨u, g1, g2⟩ := hs.get t v h1
  exact ⟨u, g1, hr _ u g2⟩
 | false => rw [hb] at hx; exact hs.get s x hx
theorem jweak {G : Gh} {Q : APost} {F F' : Fr} {H : List AObj} {k : Kt} {c : Code} (t : Nat) {v : AVal} (v' : AVal) (h1 : fget F t = some v) (hF : fsetO F t v' = some F') (hr : ∀ (c : Ctx) u, Rel c v u → Rel c v' u) (h : J P G Q (.c c k) F' H) : J P G Q (.c c k) F H :=
 aw_weak t h1 hr (aw_frame F' (fun s u hs => fsetO_get hF s u hs) h)
theorem aw_weakB {G : Gh} {c : Code} {Q : APost} {F : Fr} {H : List AObj} (j : Nat) {bt : TypeId} {cs cs' : List AVal} (hj : H[j]? = some (.box bt cs)) (ho : cs'.all AVal.one = true) (hr : ∀ (c : Ctx) us, RelL c cs us → RelL c cs' us) (h : AW P G c Q F (H.set j (.box bt cs'))) : AW P G c Q F H := by
 rintro a w ⟨β, hs⟩
 refine h a w ⟨β, ⟨by rw [List.length_set]; exact hs.inv.len, fun i o e hi he => ?_, hs.inv.uniq, hs.inv.sep⟩, hs.step, hs.extOk, hs.size, hs.defers, hs.get⟩
 by_cases hij : i = j
 ·subst hij
  have hlt := (List.getElem?_eq_some_iff.1 hj).1
  rw [List.getElem?_set_self hlt] at hi
  injection hi with hi; subst hi
  obtain ⟨g1, g2, b, us, g3, g4, g5⟩ := hs.inv.obj i _ e hj he
  exact ⟨g1, ho, b, us, g3, g4, hr _ _ g5⟩
 ·rw [List.getElem?_set_ne (by omega)] at hi
  exact hs.inv.obj i o e hi he
theorem jweakB {G : Gh} {Q : APost} {F : Fr} {H H' : List AObj} {k : Kt} {c : Code} (j : Nat) {bt : TypeId} {cs : List AVal} (cs' : List AVal) (hj : H[j]? = some (.box bt cs)) (ho : cs'.all AVal.one = true) (hH : hsetO H j (.box bt cs') = some H') (hr : ∀ (c : Ctx) us, RelL c cs us → RelL c cs' us) (h : J P G Q (.c c k) F H') : J P G Q (.c c k) F H := by
 rw [hsetO_eq hH] at h
 exact aw_weakB j hj ho hr h
theorem relL_cons {c : Ctx} {x y : AVal} {xs ys : List AVal} (h1 : ∀ u, Rel c x u → Rel c y u) (h2 : ∀ us, RelL c xs us → RelL c ys us) : ∀ us, RelL c (x :: xs) us → RelL c (y :: ys) us := by
 rintro _ ⟨u, us, rfl, r, rs⟩
 exact ⟨u, us, rfl, h1 u r, h2 us rs⟩
theorem slf_slz {c : Ctx} {xs : List AVal} {u : Value} (h : Rel c (.slf xs) u) : Rel c (.slz xs) u := by
 obtain ⟨A, es, h1, h2, h3⟩ := h
 exact ⟨A, _, es, h1, Nat.le_refl _, h2, h3, fun e => by rw [e]; rfl⟩
theorem slz_slf {c : Ctx} {u : Value} (h : Rel c (.slz []) u) : Rel c (.slf []) u := by
 obtain ⟨A, m, es, h1, h2, h3, h4, h5⟩ := h
 exact ⟨A, es, by rw [h1, h5 rfl]; rfl, h3, h4⟩
theorem sl_slz {c : Ctx} {x : AVal} {xs : List AVal} {u : Value} (h : Rel c (.sl (x :: xs)) u) : Rel c (.slz (x :: xs)) u := by
 obtain ⟨A, m, es, h1, h2, h3, h4⟩ := h
 exact ⟨A, m, es, h1, h2, h3, h4, fun e => by cases e⟩
theorem arr_at [T : TyTab P] {dst : Option Tmp} {t : TypeId} {x : Operand} {type : TypeId} {pos : String} {after : Array Edge} {guard : Option (Nat × Bool)} {F : Fr} {H : List AObj} {j off len cap n : Nat} {e : TypeId} {r : TyRow}
  (hx : ev F x = some (.bs j off len cap)) (ht : tfind T.tab t = some r) (hd : r.d = .array n e) (hn : n ≤ len) : DSem P .p ⟨dst, .sliceToArrayPointer t x, type, pos, after, guard⟩ F H (.ptr j off) H := by
 refine ⟨rfl, fun H' => ?_⟩
 intro ext w β ρ hI hext hκ hρ
 obtain ⟨ent, b, e1, e2, e3, hu⟩ := hρ x (by simp [Op.operands]) _ hx
 have h4 : (execOp ρ ⟨dst, .sliceToArrayPointer t x, type, pos, after, guard⟩).run P w = .ok (.value (.pointer (some ⟨b, off, none⟩))) w := by
  have hlt : ¬ len < n := by omega
  simp [execOp, Instr.arrayAt, hu, run_und ht, hd, hlt]
 rw [h4]
 exact came_same hI ⟨ent, b, e1, e2, e3, rfl⟩
end
end Go.AL
end
section
namespace Go.AL
open Go
theorem drawn_any {P : Program} {G : Gh} {Q : APost} [T : TyTab P] {l : List Oper} {L : List (Nat × Oper × K)} {F : Fr} {H : List AObj} (hops : ∀ x ∈ L, l.toArray[x.1]? = some x.2.1) (hc : drawOkT l L = true)
  (h : AWD P G l.toArray (fun F H => Q .normal F H) L F H) {a : Act} {w : World} (hs : St G F H a w) : wpAnyIn (fz G.rd) 0 P .any l.toArray (lift G fun e F H => ∃ F0, FrEq F0 F ∧ Q e F0 H) l.toArray.size (Array.replicate l.toArray.size false) a w := by
 simp only [drawOkT, Bool.and_eq_true] at hc
 obtain ⟨c1, c2⟩ := hc
 have c1 := Nat.eq_of_beq_eq_true c1
 have c3 := drawGoT_split (ops := l.toArray) (fun i y hy => by simp [maskOf] at hy) hops c2
 have n1 : (L.map (·.1)).Nodup := split_nodup fun L1 x L2 e y hy => (c3 L1 x L2 e).2.2.1 y hy
 let Q' : APost := fun e F H => ∃ F0, FrEq F0 F ∧ Q e F0 H
 have hQ' : ∀ F F' H, FrEq F F' → Q' .normal F H → Q' .normal F' H := fun F F' H he ⟨F0, h0, h1⟩ => ⟨F0, fun t => (h0 t).trans (he t), h1⟩
 have h' : AWD P G l.toArray (Q' .normal) L F H := by
  have : ∀ (L : List (Nat × Oper × K)) (F : Fr) (H : List AObj), AWD P G l.toArray (fun F H => Q .normal F H) L F H → AWD P G l.toArray (Q' .normal) L F H := by
   intro L
   induction L with
   | nil => intro F H h; exact ⟨F, fun _ => rfl, h⟩
   | cons x r ih => intro F H ⟨hd, v, H1, h1, h2⟩; exact ⟨hd, v, H1, h1, ih _ _ h2⟩
  exact this L F H h
 refine awd_anyT hQ' _ L _ F H (by simpa using c1) ⟨by simp, fun i hi => ?_⟩ hops n1 ?_ ?_ h' a _ hs
 ·have hm : i ∈ L.map (·.1) := nodup_full n1 (by simpa using c1) (fun y hy => by
   obtain ⟨x, hx, rfl⟩ := List.mem_map.1 hy
   have := (Array.getElem?_eq_some_iff.1 (hops x hx)).1
   simpa using this) i (by simpa using hi)
  obtain ⟨x, hx, hxi⟩ := List.mem_map.1 hm
  have hi' : i < l.length := by simpa using hi
  constructor
  ·intro _; exact ⟨x, hx, hxi⟩
  ·intro _; simp [hi']
 ·intro L1 x L2 hL
  obtain ⟨s1, s2, s3, s4, s5, s6⟩ := c3 L1 x L2 hL
  refine ⟨fun y hy hyx e he hb hey => ?_, fun e he hb => ?_, fun y hy => s5 y hy⟩
  ·rcases s1 e he hb with ⟨z, hz, hze⟩ | ⟨z, hz, _⟩
   ·rw [hL] at n1
    simp only [List.map_append, List.map_cons] at n1
    rw [List.nodup_append] at n1
    exact n1.2.2 z.1 (List.mem_map.2 ⟨z, hz, rfl⟩) y.1 (List.mem_cons_of_mem _ (List.mem_map.2 ⟨y, hy, rfl⟩)) (hze.trans hey)
   ·cases hz
  ·rcases s1 e he hb with ⟨z, hz, hze⟩ | ⟨z, hz, _⟩
   ·have hz' : z ∈ L := by rw [hL]; exact List.mem_append_left _ hz
    have := (Array.getElem?_eq_some_iff.1 (hops z hz')).1
    exact ⟨by rw [← hze]; exact this, fun hex => s3 z hz (hze.trans hex)⟩
   ·cases hz
 ·intro z o ho hz
  have hlt := (Array.getElem?_eq_some_iff.1 ho).1
  simp at hlt
  simp [hlt] at hz
def lastOk (l : List Oper) (o : Oper) : Bool :=
 (l ++ [o]).all (fun x => x.guard.isNone) && ((List.range l.length).all (fun i => (List.range (l.length + 1)).any fun j => Nat.blt i j && (match (l ++ [o])[j]? with | some x => waits x i | none => false)) &&
  (List.range (l.length + 1)).all (fun j => match (l ++ [o])[j]? with | some x => x.after.toList.all (fun e => !Region.binds .any e || Nat.blt e.on j) | none => true))
theorem push_get' {b : Array Bool} {i : Nat} {d : Bool} (h : i < b.size) : (b.push false).getD i d = b.getD i d := by
 simp only [Array.getD_eq_getD_getElem?, Array.getElem?_push_lt h, Array.getElem?_eq_getElem h]
theorem push_set {b : Array Bool} {i : Nat} (h : i < b.size) : (b.push false).setIfInBounds i true = (b.setIfInBounds i true).push false := by
 apply Array.ext_getElem?
 intro j
 rcases Nat.lt_trichotomy j b.size with hj | hj | hj
 ·rw [Array.getElem?_setIfInBounds, Array.getElem?_push_lt (by simpa using hj)]
  by_cases e : i = j
  ·subst e; simp [Array.getElem_setIfInBounds, h, Nat.lt_succ_of_lt h, Array.getElem_push_lt]
  ·simp [e, Array.getElem?_push_lt hj, Array.getElem?_push_lt (show j < (b.setIfInBounds i true).size by simpa using hj), Array.getElem_setIfInBounds, hj]
 ·subst hj
  rw [Array.getElem?_setIfInBounds_ne (by omega)]
  have e1 : (b.push false)[b.size]? = some false := by simp
  have e2 : ((b.setIfInBounds i true).push false)[b.size]? = some false := by
   have := Array.getElem?_push_size (xs := b.setIfInBounds i true) (x := false)
   simpa using this
  rw [e1, e2]
 ·rw [Array.getElem?_eq_none (by simp; omega), Array.getElem?_eq_none (by simp; omega)]
theorem opIn_mono2 {P : Program} {Fn : Fence} {n : Nat} {o : Oper} {a : Act} {w : World} {K : Act → World → Prop} {Q Q' : Exit → Act → World → Prop} (h : o.wpIn Fn n P a w K Q) (hq : ∀ ch a w, Q (.panic ch) a w → Q' (.panic ch) a w) (hq2 : ∀ a w, Q .outgrown a w → Q' .outgrown a w) : o.wpIn Fn n P a w K Q' := by
 refine ⟨h.1, ?_⟩
 have h2 := h.2
 generalize (o.semAt Fn.round a.eval).run P w = r at h2
 cases r with
 | ok x w' =>
  cases x <;> simp only [Oper.uponIn] at h2 ⊢ <;> try exact h2
  ·refine ⟨h2.1, CallsIn.mono h2.2 fun e w'' he => ?_⟩
   cases e with
   | returned v => exact he
   | panicked ch => exact hq _ _ _ he
   | outgrown => exact let ⟨a, w, h⟩ := he; ⟨a, w, hq2 _ _ h⟩
  ·refine ⟨h2.1, RoundIn.mono h2.2 fun e w'' he => ?_⟩
   cases e with
   | returned v => exact he
   | panicked ch => exact hq _ _ _ he
   | outgrown => exact let ⟨a, w, h⟩ := he; ⟨a, w, hq2 _ _ h⟩
 | halt x w' =>
  cases x <;> simp only [Oper.uponIn] at h2 ⊢ <;> first | exact hq _ _ _ h2 | exact h2
section
variable {P : Program} {G : Gh} {Q Q1 : APost} {l : List Oper} {o : Oper}
def ClosedL (l : List Oper) (b : Array Bool) : Prop := ∀ i x, l[i]? = some x → b.getD i false = true → ∀ e ∈ x.after, Region.binds .any e = true → b.getD e.on false = true
theorem any_last (hl : lastOk l o = true) (hq1 : ∀ e F H, e ≠ .normal → ¬ Q1 e F H) (hQ : ∀ a w, lift G Q1 .normal a w → o.wpIn (fz G.rd) 0 P a w (fun a w => lift G Q .normal a w) (lift G Q)) :
  ∀ (m : Nat) (b : Array Bool) (a : Act) (w : World), b.size = l.length → ClosedL l b → wpAnyIn (fz G.rd) 0 P .any l.toArray (lift G Q1) m b a w → wpAnyIn (fz G.rd) 0 P .any (l ++ [o]).toArray (lift G Q) (m + 1) (b.push false) a w := by
 simp only [lastOk, Bool.and_eq_true, List.all_eq_true, List.mem_range] at hl
 obtain ⟨g1, g2, g3⟩ := hl
 have hgd : ∀ x ∈ l ++ [o], x.guard = none := fun x hx => by simpa using g1 x hx
 have hwn : ∀ x ∈ l ++ [o], ∀ y, Region.wanted x y = true := fun x hx y => by unfold Region.wanted; rw [hgd x hx]
 have hlow : ∀ j x, (l ++ [o])[j]? = some x → ∀ e ∈ x.after, Region.binds .any e = true → e.on < j := fun j x hx e he hb => by
  have hj : j < l.length + 1 := by have := (List.getElem?_eq_some_iff.1 hx).1; simpa using this
  have h := g3 j hj
  rw [hx] at h
  simp only [List.all_eq_true] at h
  have := h e (by simpa using he)
  rw [hb] at this
  simpa [Nat.blt_eq] using this
 have hop : ∀ i, i < l.length → (l ++ [o]).toArray[i]? = l.toArray[i]? := fun i hi => by
  simp [List.getElem?_append_left hi]
 have hbadE : ∀ e a w, e ≠ .normal → ¬ lift G Q1 e a w := by
  intro e a w hne h
  cases e with
  | normal => exact hne rfl
  | exit id => obtain ⟨F, H, h1, _⟩ := h; exact hq1 _ _ _ (by simp) h1
  | ret => obtain ⟨F, H, h1, _⟩ := h; exact hq1 _ _ _ (by simp) h1
  | panic ch => obtain ⟨v, F, H, β, u, h1, _⟩ := h; exact hq1 _ _ _ (by simp) h1
  | goto l => exact h.elim
  | outgrown => exact h.elim
 -- what is ready
 have rd : ∀ (b : Array Bool), b.size = l.length → ∀ i, i < l.length → (i ∈ Region.ready .any (l ++ [o]).toArray (b.push false) ↔ i ∈ Region.ready .any l.toArray b) := by
  intro b hb i hi
  rw [mem_ready, mem_ready, hop i hi, push_get' (by omega)]
  constructor
  ·rintro ⟨h1, x, hx, h2⟩
   refine ⟨h1, x, hx, fun e he hbd => ?_⟩
   have hlt := hlow i x (by rw [← hop i hi] at hx; simpa using hx) e he hbd
   have := h2 e he hbd
   rwa [push_get' (by omega)] at this
  ·rintro ⟨h1, x, hx, h2⟩
   refine ⟨h1, x, hx, fun e he hbd => ?_⟩
   have hlt := hlow i x (by rw [← hop i hi] at hx; simpa using hx) e he hbd
   rw [push_get' (by omega)]
   exact h2 e he hbd
 have hmin : ∀ (b : Array Bool), b.size = l.length → (∃ i, i < l.length ∧ b.getD i true = false) → ∃ i, i < l.length ∧ i ∈ Region.ready .any l.toArray b := by
  rintro b hb ⟨i, hi, hf⟩
  induction i using Nat.strongRecOn with
  | _ i ih =>
   by_cases hx : ∃ j, j < i ∧ b.getD j true = false
   ·obtain ⟨j, hj, hjf⟩ := hx
    exact ih j hj (by omega) hjf
   ·refine ⟨i, hi, mem_ready.2 ⟨hf, l[i], by simp [hi], fun e he hbd => ?_⟩⟩
    have hlt := hlow i l[i] (by rw [List.getElem?_append_left hi, List.getElem?_eq_getElem hi]) e he hbd
    have : ¬ b.getD e.on true = false := fun h => hx ⟨e.on, hlt, h⟩
    have hs : e.on < b.size := by omega
    simp only [Array.getD_eq_getD_getElem?, Array.getElem?_eq_getElem hs, Option.getD_some] at this ⊢
    simpa using this
 have hall : ∀ (b : Array Bool), b.size = l.length → ClosedL l b → l.length ∈ Region.ready .any (l ++ [o]).toArray (b.push false) → ∀ i, i < l.length → b.getD i false = true := by
  intro b hb hc hr
  obtain ⟨_, x, hx, h2⟩ := mem_ready.1 hr
  have hx : x = o := by simpa using hx.symm
  subst hx
  have : ∀ d i, i < l.length → l.length - i = d → b.getD i false = true := by
   intro d
   induction d using Nat.strongRecOn with
   | _ d ih =>
    intro i hi hd
    have h := g2 i hi
    obtain ⟨j, hj, hw⟩ := List.any_eq_true.1 h
    rw [Bool.and_eq_true, Nat.blt_eq] at hw
    obtain ⟨hij, hw⟩ := hw
    have hj : j < l.length + 1 := by simpa using hj
    cases hjx : (l ++ [x])[j]? with
    | none => rw [hjx] at hw; cases hw
    | some y =>
     rw [hjx] at hw
     simp only [waits, List.any_eq_true, Bool.and_eq_true] at hw
     obtain ⟨e, he, hbd, hon⟩ := hw
     have hon := Nat.eq_of_beq_eq_true hon
     by_cases hjl : j = l.length
     ·subst hjl
      have hy : y = x := by simpa using hjx.symm
      subst hy
      have := h2 e (by simpa using he) hbd
      rw [hon, push_get' (by omega)] at this
      exact this
     ·have hj2 : j < l.length := by omega
      have h3 := ih (l.length - j) (by omega) j hj2 rfl
      rw [List.getElem?_append_left hj2] at hjx
      have := hc j y hjx h3 e (by simpa using he) hbd
      rwa [hon] at this
  exact fun i hi => this _ i hi rfl
 -- the last one
 have hlast : ∀ (m : Nat) (b : Array Bool) (a : Act) (w : World), b.size = l.length → (∀ i, i < l.length → b.getD i false = true) → lift G Q1 .normal a w → wpAnyIn (fz G.rd) 0 P .any (l ++ [o]).toArray (lift G Q) (m + 1) (b.push false) a w := by
  intro m b a w hb hfull hq
  have hend : Region.ready .any (l ++ [o]).toArray ((b.push false).setIfInBounds l.length true) = [] := by
   cases hr : Region.ready .any (l ++ [o]).toArray ((b.push false).setIfInBounds l.length true) with
   | nil => rfl
   | cons i r =>
    exfalso
    have hi : i ∈ Region.ready .any (l ++ [o]).toArray ((b.push false).setIfInBounds l.length true) := by rw [hr]; exact List.mem_cons_self ..
    obtain ⟨h0, x, hx, _⟩ := mem_ready.1 hi
    have hlt : i < l.length + 1 := by have := (Array.getElem?_eq_some_iff.1 hx).1; simpa using this
    have : ((b.push false).setIfInBounds l.length true).getD i true = true := by
     by_cases e : i = l.length
     ·subst e; simp [hb]
     ·have h1 := hfull i (by omega)
      have hs : i < b.size := by omega
      have hne : l.length ≠ i := by omega
      simp only [Array.getD_eq_getD_getElem?, Array.getElem?_eq_getElem hs, Option.getD_some] at h1
      simp [Array.getD_eq_getD_getElem?, Array.getElem?_setIfInBounds_ne hne, Array.getElem?_push_lt hs, h1]
    rw [this] at h0; cases h0
  refine ⟨fun hr => ?_, fun i hi => ?_⟩
  ·exfalso
   have : l.length ∈ Region.ready .any (l ++ [o]).toArray (b.push false) := by
    refine mem_ready.2 ⟨by simp [← hb], o, by simp, fun e he hbd => ?_⟩
    have hlt := hlow l.length o (by simp) e he hbd
    rw [push_get' (by omega)]
    exact hfull _ hlt
   rw [hr] at this; cases this
  ·have hil : i = l.length := by
    obtain ⟨h0, x, hx, _⟩ := mem_ready.1 hi
    have hlt : i < l.length + 1 := by have := (Array.getElem?_eq_some_iff.1 hx).1; simpa using this
    by_cases e : i = l.length
    ·exact e
    ·exfalso
     have h1 := hfull i (by omega)
     rw [push_get' (by omega)] at h0
     have hs : i < b.size := by omega
     simp only [Array.getD_eq_getD_getElem?, Array.getElem?_eq_getElem hs, Option.getD_some] at h0 h1
     rw [h1] at h0; cases h0
   subst hil
   unfold wpOpIn
   have hoo : (l ++ [o]).toArray[l.length]? = some o := by simp
   rw [hoo]
   simp only
   rw [if_pos (hwn o (by simp) _)]
   refine Oper.wpIn_mono (fun a w h => ?_) (hQ a w hq)
   cases m with
   | zero => exact ⟨hend, h⟩
   | succ m => exact ⟨fun _ => h, fun i hi => by rw [hend] at hi; cases hi⟩
 intro m
 induction m with
 | zero =>
  intro b a w hb hc h
  refine hlast 0 b a w hb (fun i hi => ?_) h.2
  by_cases hf : b.getD i true = false
  ·obtain ⟨j, _, hj⟩ := hmin b hb ⟨i, hi, hf⟩
   rw [h.1] at hj; cases hj
  ·have hs : i < b.size := by omega
   simp only [Array.getD_eq_getD_getElem?, Array.getElem?_eq_getElem hs, Option.getD_some] at hf ⊢
   simpa using hf
 | succ m ih =>
  intro b a w hb hc h
  by_cases hfull : ∀ i, i < l.length → b.getD i false = true
  ·refine hlast (m + 1) b a w hb hfull (h.1 ?_)
   cases hr : Region.ready .any l.toArray b with
   | nil => rfl
   | cons i r =>
    exfalso
    have hi : i ∈ Region.ready .any l.toArray b := by rw [hr]; exact List.mem_cons_self ..
    obtain ⟨h0, x, hx, _⟩ := mem_ready.1 hi
    have hlt : i < l.length := by have := (Array.getElem?_eq_some_iff.1 hx).1; simpa using this
    have h1 := hfull i hlt
    have hs : i < b.size := by omega
    simp only [Array.getD_eq_getD_getElem?, Array.getElem?_eq_getElem hs, Option.getD_some] at h0 h1
    rw [h1] at h0; cases h0
  ·have hun : ∃ i, i < l.length ∧ b.getD i true = false := by
    rcases Classical.not_forall.1 hfull with ⟨i, hi⟩
    rcases Classical.not_imp.1 hi with ⟨hi, hf⟩
    refine ⟨i, hi, ?_⟩
    have hs : i < b.size := by omega
    simp only [Array.getD_eq_getD_getElem?, Array.getElem?_eq_getElem hs, Option.getD_some] at hf ⊢
    simpa using hf
   refine ⟨fun hr => ?_, fun i hi => ?_⟩
   ·obtain ⟨j, hj, hjr⟩ := hmin b hb hun
    have := (rd b hb j hj).2 hjr
    rw [hr] at this; cases this
   ·obtain ⟨h0, x, hx, h2⟩ := mem_ready.1 hi
    have hlt : i < l.length + 1 := by have := (Array.getElem?_eq_some_iff.1 hx).1; simpa using this
    by_cases e : i = l.length
    ·exact absurd (hall b hb hc (e ▸ hi)) hfull
    ·have hi2 : i < l.length := by omega
     have hir := (rd b hb i hi2).1 hi
     have hstep := h.2 i hir
     unfold wpOpIn at hstep ⊢
     rw [hop i hi2]
     have hxl : l.toArray[i]? = some x := by rw [← hop i hi2]; exact hx
     rw [hxl] at hstep ⊢
     simp only at hstep ⊢
     have hxm : x ∈ l ++ [o] := by
      have : l[i]? = some x := by simpa using hxl
      exact List.mem_append_left _ (List.mem_of_getElem? this)
     rw [if_pos (hwn x hxm _)] at hstep ⊢
     refine opIn_mono2 (Oper.wpIn_mono (fun a w hk => ?_) hstep) (fun ch a w he => absurd he (hbadE _ _ _ (by simp))) (fun a w he => absurd he (hbadE _ _ _ (by simp)))
     ·rw [push_set (by omega)]
      refine ih _ a w (by simpa using hb) (fun j y hy hj e he hbd => ?_) hk
      have hset : ∀ q, b.getD q false = true → (b.setIfInBounds i true).getD q false = true := fun q hq => by
       by_cases eq : i = q
       ·subst eq; simp [Array.getD_eq_getD_getElem?, show i < b.size by omega]
       ·simpa [Array.getD_eq_getD_getElem?, Array.getElem?_setIfInBounds_ne eq] using hq
      by_cases ej : i = j
      ·subst ej
       have hyx : y = x := by
        have : l[i]? = some x := by simpa using hxl
        rw [this] at hy; injection hy with hy; exact hy.symm
       subst hyx
       have hlt2 := hlow i y (by rw [List.getElem?_append_left hi2]; exact hy) e he hbd
       have := h2 e he hbd
       rw [push_get' (by omega)] at this
       exact hset _ this
      ·have hj' : b.getD j false = true := by simpa [Array.getD_eq_getD_getElem?, Array.getElem?_setIfInBounds_ne ej] using hj
       exact hset _ (hc j y hy hj' e he hbd)
def spl {α : Type} : List α → Option (List α × α)
 | [] => none
 | [a] => some ([], a)
 | a :: b :: r => match spl (b :: r) with
  | some (l, o) => some (a :: l, o)
  | none => none
theorem spl_eq {α : Type} : ∀ {L l : List α} {o : α}, spl L = some (l, o) → L = l ++ [o]
 | [], _, _, h => by simp [spl] at h
 | [a], l, o, h => by simp [spl] at h; obtain ⟨rfl, rfl⟩ := h; rfl
 | a :: b :: r, l, o, h => by
  simp only [spl] at h
  split at h
  ·rename_i l' o' he
   injection h with h; injection h with h1 h2; subst h1; subst h2
   rw [spl_eq he]; rfl
  ·cases h
theorem jdrawE [T : TyTab P] {id : Nat} {L l : List Oper} {o : Oper} {F : Fr} {H : List AObj} {k : Kt} (pl : List (Nat × K)) (hs : spl L = some (l, o)) (hp : pl.all (fun x => Nat.blt x.1 l.length) = true) (hc : drawOkT l (plan l pl) = true) (hl : lastOk l o = true)
  (next : J P G (Only fun F' H' => J P G Q (.l L.toArray [o] k) F' H') (.d l.toArray (plan l pl) .nil) F H) : J P G Q (.c (.region id L.toArray true) k) F H := by
 intro a w hst
 rw [spl_eq hs] at next ⊢
 have hst' : St G F H a { w with drawn := w.drawn + 1 } := by
  obtain ⟨β, hs⟩ := hst
  exact ⟨β, hs.world (hs.inv.same (drew_same w)) ((drew_same w).step β)⟩
 refine wpIn_region_any T.mixed ?_
 have h1 := drawn_any (Q := Only fun F' H' => J P G Q (.l (l ++ [o]).toArray [o] k) F' H') (plan_ops hp) hc next hst'
 have h2 := any_last (P := P) (G := G) (Q := post P G Q k) hl (Q1 := fun e F H => ∃ F0, FrEq F0 F ∧ Only (fun F' H' => J P G Q (.l (l ++ [o]).toArray [o] k) F' H') e F0 H) (fun e F H hne ⟨F0, _, h⟩ => by cases e <;> first | exact hne rfl | exact h.elim) (fun a w ⟨F', H', ⟨F0, h0, hj⟩, hs⟩ => ?_) l.toArray.size (Array.replicate l.toArray.size false) a _ (by simp) (fun i x hx hi => by
   exfalso
   have : i < l.length := (List.getElem?_eq_some_iff.1 hx).1
   simp [Array.getD_eq_getD_getElem?, this] at hi) h1
 ·have e1 : (l ++ [o]).toArray.size = l.toArray.size + 1 := by simp
  have e2 : Array.replicate ((l ++ [o]).toArray.size) false = (Array.replicate l.toArray.size false).push false := by rw [e1, Array.replicate_succ]
  rw [e2, e1]
  exact h2
 ·have hs0 := hs.eq (fun t => (h0 t).symm)
  have hgn : o.guard = none := by
   simp only [lastOk, Bool.and_eq_true, List.all_eq_true] at hl
   simpa using hl.1 o (by simp)
  obtain ⟨hd, hx⟩ := hj
  rcases hx with ⟨_, res, ho, hr⟩ | ⟨hg, _⟩
  ·exact op_wp hd ho hs0 fun r H' hres => by
    have := hr r H' hres
    cases r with
    | ret v => exact fun a w hs => ⟨_, _, this, hs⟩
    | pan v => exact this
  ·simp [guardA, hgn] at hg
theorem jat {F : Fr} {H : List AObj} {x : AExit} (h : Q x F H) : J P G Q (.e x .nil) F H := h
theorem jonly {K : Fr → List AObj → Prop} {F : Fr} {H : List AObj} (h : K F H) : J P G (Only K) (.e .normal .nil) F H := h
end
end Go.AL
end
section
namespace Go.AL
open Go
theorem Came.weak {ext : Nat → Prop} {w : World} {β : List Ent} {v v' : AVal} {H : List AObj} (hr : ∀ (c : Ctx) u, Rel c v u → Rel c v' u) {u : Value} {w' : World} (h : Came ext w β (one v H) .ret u w') : Came ext w β (one v' H) .ret u w' := by
 obtain ⟨x, H', β', ⟨h1, h2⟩, h3, h4, h5⟩ := h
 injection h1 with h1
 subst h1; subst h2
 exact ⟨v', H', β', ⟨rfl, rfl⟩, hr _ _ h3, h4, h5⟩
theorem Ended.weak {ext : Nat → Prop} {w : World} {β : List Ent} {v v' : AVal} {H : List AObj} (hr : ∀ (c : Ctx) u, Rel c v u → Rel c v' u) : ∀ {e : Ending} {w' : World}, Ended ext w β (one v H) e w' → Ended ext w β (one v' H) e w'
 | .returned u, w', h => Came.weak hr h
 | .panicked ch, w', ⟨u, h1, x, H', β', ⟨h2, _⟩, _⟩ => by cases h2
 | .outgrown, _, h => h.elim
theorem Upon.weak {P : Program} {ext : Nat → Prop} {w : World} {β : List Ent} {v v' : AVal} {H : List AObj} (hr : ∀ (c : Ctx) u, Rel c v u → Rel c v' u) : ∀ {r : Result Next}, Upon P ext w β (one v H) r → Upon P ext w β (one v' H) r := by
 intro r h
 unfold Upon at *
 split at h
 ·exact Came.weak hr h
 ·exact Came.weak hr h
 ·exact Calls.mono h fun e w'' he => Ended.weak hr he
 ·exact RoundIn.mono h fun e w'' he => Ended.weak hr he
 ·obtain ⟨x, H', β', ⟨h2, _⟩, _⟩ := h
  cases h2
 ·exact h.elim
theorem DSem.wkn {P : Program} {k : K} {o : Oper} {F : Fr} {H H1 : List AObj} {v v' : AVal} (hr : ∀ (c : Ctx) u, Rel c v u → Rel c v' u) (h : DSem P k o F H v H1) : DSem P k o F H v' H1 := by
 cases k with
 | p => exact ⟨h.1, fun H' ext w β ρ a b c d => (h.2 H' ext w β ρ a b c d).weak hr⟩
 | r => exact ⟨h.1, fun H' hb ext w β ρ a b c d => (h.2 H' hb ext w β ρ a b c d).weak hr⟩
 | s => exact ⟨h.1, fun ext w β ρ a b c d => (h.2 ext w β ρ a b c d).weak hr⟩
 | x => exact ⟨h.1, fun ext w β ρ a b c d => (h.2 ext w β ρ a b c d).weak hr⟩
 | m => exact fun ext w β ρ a b c d => (h ext w β ρ a b c d).weak hr
theorem jow {P : Program} {G : Gh} {Q : APost} {F F' : Fr} {H H' : List AObj} {s s' : Pt} {ops : Array Oper} {o : Oper} {kk : Option K} {kd : K} {v v' : AVal} (h : nextO s = some (ops, o, kk, s')) (hg : guardA ops F o = some true) (hd : DSem P kd o F H v H') (hr : ∀ (c : Ctx) u, Rel c v u → Rel c v' u) (hk : okK kd kk = true) (hp : putA G.n o.dst v' F = some F')
  (next : J P G Q s' F' H') : J P G Q s F H := jo h hg (hd.wkn hr) hk hp next
theorem jfin {P : Program} {G : Gh} {Q : APost} {F : Fr} {H H' : List AObj} {c : Code} {k : Kt} (n : Nat) (ts : List Nat) {vs vs' : List AVal} (wk : Bool) (hp : fproj F ts = some vs) (hf : finish n [] wk H (.tup vs) = some (.tup vs', H')) (hn : Nat.ble n H.length = true) (hβ : G.β0.length ≤ n)
  (h : J P G Q (.c c k) (ts.zip vs') H') : J P G Q (.c c k) F H := aw_fin (Q := post P G Q k) n ts wk hp hf hn hβ h
end Go.AL
end
section
namespace Go.AL
open Go
section
variable {P : Program}
end
end Go.AL
end
section
namespace Go.AL
open Go
end Go.AL
end
section
namespace Go.AL
open Go
section
variable {P : Program}
end
end Go.AL
end
section
namespace Go.AL
open Go
section
variable {P : Program} {G : Gh} {Q : APost} {F F' : Fr} {H H' : List AObj} {k : Kt}
theorem jS [T : TyTab P] {s s' : Pt} (next : J P G Q s' F' H') (h : stp T.tab G.n F H s = some (s', F', H') := by exact rfl) : J P G Q s F H := js h next
theorem jD [T : TyTab P] {id : Nat} {l : List Oper} (next : J P G Q (.d l.toArray (plan0 0 l) k) F H) (hc : drawOk l (plan0 0 l) = true := by kernel_rfl) : J P G Q (.c (.region id l.toArray true) k) F H := jdraw hc next
theorem jB [T : TyTab P] {s s' : Pt} {ops : Array Oper} {dst : Option Tmp} {o : Op} {type : TypeId} {pos : String} {after : Array Edge} {guard : Option (Nat × Bool)} {kk : Option K} {v : AVal} (next : J P G Q s' F' H)
  (h : nextO s = some (ops, ⟨dst, o, type, pos, after, guard⟩, kk, s') := by exact rfl) (hb : buildB T.tab o F = some v := by exact rfl) (hg : guardA ops F ⟨dst, o, type, pos, after, guard⟩ = some true := by exact rfl) (hp : putA G.n dst v F = some F' := by exact rfl) : J P G Q s F H := jbu h hb hg hp next
theorem jV {f : FuncId} {args : List AVal} {v : AVal} (hc : ACalls P f args [] (one v [])) {s s' : Pt} {ops : Array Oper} {dst : Option Tmp} {o : Op} {type : TypeId} {pos : String} {after : Array Edge} {guard : Option (Nat × Bool)} {kk : Option K} (next : J P G Q s' F' H)
  (h : nextO s = some (ops, ⟨dst, o, type, pos, after, guard⟩, kk, s') := by exact rfl) (ho : callO F o = some (f, args) := by exact rfl) (hg : guardA ops F ⟨dst, o, type, pos, after, guard⟩ = some true := by exact rfl) (hl : (ltL 0 args && ltV 0 v) = true := by exact rfl) (hp : putA G.n dst v F = some F' := by exact rfl) : J P G Q s F H :=
 jv hc h ho hg hl hp next
theorem jR {tab : List TyRow} {rs : List ResultVar} {n : Nat} {r r' v : AVal} {Hv : List AObj} (h1 : resA tab rs F H = some r := by exact rfl) (h3 : finish n [] true H r = some (r', H') := by exact rfl) (h4 : r' = v := by exact rfl) (h5 : H' = Hv := by exact rfl) : J P G (BodyQ tab rs n (one v Hv)) (.e .ret .nil) F H := jr h1 h3 h4 h5
end
end Go.AL
end
section
namespace Go.AL
open Go
abbrev Od := Nat × Oper × K
def PwR (ops : Array Oper) (y x : Od) : Prop := y.1 ≠ x.1 ∧ (∀ e ∈ y.2.1.after, Region.binds .any e = true → e.on ≠ x.1) ∧ (Anc ops x.1 y.1 ∨ (y.2.1.apart ops x.2.1 = true ∧ y.2.2.apart x.2.2 = true))
structure Pw (ops : Array Oper) (L : List Od) : Prop where
 pw : L.Pairwise (PwR ops)
 at_ : ∀ x ∈ L, ops[x.1]? = some x.2.1 ∧ ∀ e ∈ x.2.1.after, Region.binds .any e = true → e.on < ops.size ∧ e.on ≠ x.1
theorem Pw.sub {ops : Array Oper} {L L' : List Od} (h : Pw ops L) (hs : L'.Sublist L) : Pw ops L' := ⟨h.pw.sublist hs, fun x hx => h.at_ x (hs.subset hx)⟩
theorem Pw.any {P : Program} {G : Gh} {ops : Array Oper} {Q : APost} (hQ : ∀ F F' H, FrEq F F' → Q .normal F H → Q .normal F' H) {L : List Od} {listed : Array Bool} {F : Fr} {H : List AObj} (h : Pw ops L) (hL : Left ops.size L listed) (hcl : Closed ops listed)
  (ha : AWD P G ops (Q .normal) L F H) : ∀ a w, St G F H a w → wpAnyIn (fz G.rd) 0 P .any ops (lift G Q) L.length listed a w :=
 awd_anyT hQ _ L listed F H rfl hL (fun x hx => (h.at_ x hx).1) (List.pairwise_map.2 (h.pw.imp fun r => r.1)) (fun L1 x L2 e => by
  have hp := h.pw
  rw [e] at hp
  obtain ⟨_, p2, p3⟩ := List.pairwise_append.1 hp
  have p2 := (List.pairwise_cons.1 p2).1
  have hx := h.at_ x (by rw [e]; simp)
  refine ⟨fun y hy hyx e1 he hb hy2 => ?_, hx.2, fun y hy => (p3 y hy x (List.mem_cons_self ..)).2.2⟩
  exact (p2 y hy).2.1 e1 he hb hy2) hcl ha
theorem AWD.app {P : Program} {G : Gh} {ops : Array Oper} {Q : Fr → List AObj → Prop} : ∀ (C L : List Od) (F : Fr) (H : List AObj), AWD P G ops (fun F H => AWD P G ops Q L F H) C F H → AWD P G ops Q (C ++ L) F H
 | [], L, F, H, h => h
 | (i, o, k) :: C, L, F, H, ⟨hd, v, H1, h1, h2⟩ => ⟨hd, v, H1, h1, AWD.app C L _ _ h2⟩
theorem AWD.mono {P : Program} {G : Gh} {ops : Array Oper} {Q Q' : Fr → List AObj → Prop} (hq : ∀ F H, Q F H → Q' F H) : ∀ (C : List Od) (F : Fr) (H : List AObj), AWD P G ops Q C F H → AWD P G ops Q' C F H
 | [], F, H, h => hq F H h
 | (i, o, k) :: C, F, H, ⟨hd, v, H1, h1, h2⟩ => ⟨hd, v, H1, h1, AWD.mono hq C _ _ h2⟩
theorem Left.take {n : Nat} {L1 L2 : List Od} {x : Od} {listed : Array Bool} (h : Left n (L1 ++ x :: L2) listed) (hne : ∀ y ∈ L1 ++ L2, y.1 ≠ x.1) : Left n (L1 ++ L2) (listed.setIfInBounds x.1 true) := by
 refine ⟨by simp [h.1], fun j hj => ?_⟩
 by_cases hji : x.1 = j
 ·subst hji
  rw [getD_set_self (by rw [h.1]; exact hj)]
  exact ⟨fun e => (by cases e), fun ⟨y, hy, hyx⟩ => absurd hyx (hne y hy)⟩
 ·rw [getD_set_ne true hji, h.2 j hj]
  constructor
  ·rintro ⟨y, hy, hyj⟩
   rcases List.mem_append.1 hy with h4 | h4
   ·exact ⟨y, List.mem_append_left _ h4, hyj⟩
   ·rcases List.mem_cons.1 h4 with rfl | h5
    ·exact absurd hyj hji
    ·exact ⟨y, List.mem_append_right _ h5, hyj⟩
  ·rintro ⟨y, hy, hyj⟩
   rcases List.mem_append.1 hy with h4 | h4
   ·exact ⟨y, List.mem_append_left _ h4, hyj⟩
   ·exact ⟨y, List.mem_append_right _ (List.mem_cons_of_mem _ h4), hyj⟩
theorem Closed.take {ops : Array Oper} {listed : Array Bool} (h : Closed ops listed) {i : Nat} {o : Oper} (ho : ops[i]? = some o) (hs : listed.size = ops.size) (hall : ∀ e ∈ o.after, Region.binds .any e = true → listed.getD e.on false = true) : Closed ops (listed.setIfInBounds i true) := by
 have hxs : i < listed.size := by rw [hs]; exact (Array.getElem?_eq_some_iff.1 ho).1
 have mono : ∀ j, listed.getD j false = true → (listed.setIfInBounds i true).getD j false = true := fun j hj => by
  by_cases hji : i = j
  ·subst hji; simp [hxs]
  ·rw [getD_set_ne false hji]; exact hj
 intro z oz hoz hz e he hb
 by_cases hzi : i = z
 ·subst hzi
  rw [ho] at hoz; injection hoz with hoz; subst hoz
  exact mono _ (hall e he hb)
 ·rw [getD_set_ne false hzi] at hz
  exact mono _ (h z oz hoz hz e he hb)
structure Fork (ops : Array Oper) (xi xj : Od) (A B : List Od) : Prop where
 ai : ops[xi.1]? = some xi.2.1
 aj : ops[xj.1]? = some xj.2.1
 same : ∀ n, (∃ x ∈ xi :: A, x.1 = n) ↔ (∃ x ∈ xj :: B, x.1 = n)
 len : A.length = B.length
 niA : ∀ y ∈ A, y.1 ≠ xi.1
 njB : ∀ y ∈ B, y.1 ≠ xj.1
 wait : ∀ x ∈ A, x.1 ≠ xj.1 → ∃ e ∈ x.2.1.after, Region.binds .any e = true ∧ ∃ y ∈ xi :: A, y.1 = e.on
 free : ∀ e ∈ xi.2.1.after, Region.binds .any e = true → e.on < ops.size ∧ ∀ y ∈ xi :: A, y.1 ≠ e.on
structure ForkC (ops : Array Oper) (xi xj : Od) (A B C : List Od) : Prop where
 pa : Pw ops (C ++ A)
 pb : Pw ops (C ++ B)
 ci : ∀ y ∈ C, y.1 ≠ xi.1 ∧ (Anc ops xi.1 y.1 ∨ (y.2.1.apart ops xi.2.1 = true ∧ y.2.2.apart xi.2.2 = true))
 cj : ∀ y ∈ C, y.1 ≠ xj.1 ∧ (Anc ops xj.1 y.1 ∨ (y.2.1.apart ops xj.2.1 = true ∧ y.2.2.apart xj.2.2 = true))
 out : ∀ x ∈ C, ∀ e ∈ x.2.1.after, Region.binds .any e = true → e.on ≠ xi.1
theorem ForkC.sub {ops : Array Oper} {xi xj : Od} {A B C C' : List Od} (h : ForkC ops xi xj A B C) (hs : C'.Sublist C) : ForkC ops xi xj A B C' :=
 ⟨h.pa.sub (hs.append (List.Sublist.refl _)), h.pb.sub (hs.append (List.Sublist.refl _)), fun y hy => h.ci y (hs.subset hy), fun y hy => h.cj y (hs.subset hy), fun y hy => h.out y (hs.subset hy)⟩
theorem awd_fork {P : Program} {G : Gh} {ops : Array Oper} {Q : APost} (hQ : ∀ F F' H, FrEq F F' → Q .normal F H → Q .normal F' H) {xi xj : Od} {A B : List Od} (hf : Fork ops xi xj A B) :
  ∀ (n : Nat) (C : List Od) (listed : Array Bool) (F : Fr) (H : List AObj), n = C.length + A.length + 1 → ForkC ops xi xj A B C → Left ops.size (C ++ xi :: A) listed → Closed ops listed →
   AWD P G ops (fun F H => AWD P G ops (Q .normal) (xi :: A) F H ∧ AWD P G ops (Q .normal) (xj :: B) F H) C F H → ∀ a w, St G F H a w → wpAnyIn (fz G.rd) 0 P .any ops (lift G Q) n listed a w
 | 0, C, listed, F, H, hn, _, _, _, _, a, w, hs => absurd hn (by omega)
 | n + 1, C, listed, F, H, hn, hC, hL, hcl, h, a, w, hs => by
  have hQ2 : ∀ F F' H, FrEq F F' → (AWD P G ops (Q .normal) (xi :: A) F H ∧ AWD P G ops (Q .normal) (xj :: B) F H) → (AWD P G ops (Q .normal) (xi :: A) F' H ∧ AWD P G ops (Q .normal) (xj :: B) F' H) := fun F F' H he h => ⟨AWD.congr hQ _ _ _ _ he h.1, AWD.congr hQ _ _ _ _ he h.2⟩
  have hun : ∀ y ∈ C ++ xi :: A, y.1 < ops.size → listed.getD y.1 true = false := fun y hy hl => (hL.2 y.1 hl).2 ⟨y, hy, rfl⟩
  have hli : ∀ j, j < ops.size → (∀ y ∈ C ++ xi :: A, y.1 ≠ j) → listed.getD j false = true := fun j hj hne => by
   have h5 : ¬ (listed.getD j true = false) := fun hf => by
    obtain ⟨y, hy, e⟩ := (hL.2 j hj).1 hf
    exact hne y hy e
   have hsz : j < listed.size := by rw [hL.1]; exact hj
   simp only [Array.getD_eq_getD_getElem?, Array.getElem?_eq_getElem hsz, Option.getD_some] at h5 ⊢
   simpa using h5
  have hno : ∀ j, j < ops.size → listed.getD j true = false → listed.getD j false = true → False := fun j hj h1 h2 => by
   have hsz : j < listed.size := by rw [hL.1]; exact hj
   simp only [Array.getD_eq_getD_getElem?, Array.getElem?_eq_getElem hsz, Option.getD_some] at h1 h2
   rw [h1] at h2; cases h2
  refine ⟨fun hr => ?_, fun i hi => ?_⟩
  ·exfalso
   have key : ∃ x ∈ C ++ xi :: A, ops[x.1]? = some x.2.1 ∧ ∀ e ∈ x.2.1.after, Region.binds .any e = true → listed.getD e.on false = true := by
    cases C with
    | nil => exact ⟨xi, by simp, hf.ai, fun e he hb => hli _ (hf.free e he hb).1 fun y hy => (hf.free e he hb).2 y (by simpa using hy)⟩
    | cons x C =>
     obtain ⟨k1, k2⟩ := hC.pa.at_ x (by simp)
     have kp := hC.pa.pw
     rw [List.cons_append] at kp
     have kp := (List.pairwise_cons.1 kp).1
     refine ⟨x, by simp, k1, fun e he hb => hli _ (k2 e he hb).1 fun y hy hye => ?_⟩
     rcases List.mem_append.1 hy with hy | hy
     ·rcases List.mem_cons.1 hy with rfl | hy
      ·exact (k2 e he hb).2 hye.symm
      ·exact (kp y (List.mem_append_left _ hy)).2.1 e he hb hye.symm
     ·rcases List.mem_cons.1 hy with rfl | hy
      ·exact hC.out x (List.mem_cons_self ..) e he hb hye.symm
      ·exact (kp y (List.mem_append_right _ hy)).2.1 e he hb hye.symm
   obtain ⟨x, hx, ho, hall⟩ := key
   have hlt := (Array.getElem?_eq_some_iff.1 ho).1
   have : x.1 ∈ Region.ready .any ops listed := mem_ready.2 ⟨hun x hx hlt, x.2.1, ho, hall⟩
   rw [hr] at this
   cases this
  ·obtain ⟨h0, o, ho, hall⟩ := mem_ready.1 hi
   have hlt := (Array.getElem?_eq_some_iff.1 ho).1
   obtain ⟨x, hx, hxi⟩ := (hL.2 i hlt).1 h0
   subst hxi
   have key : ∃ k v H1, (∀ t, o.dst = some t → t < G.n) ∧ DStep P ops k o F H v H1 ∧ ∀ a w, St G (fput F o.dst v) H1 a w → wpAnyIn (fz G.rd) 0 P .any ops (lift G Q) n (listed.setIfInBounds x.1 true) a w := by
    have hcl' := hcl.take ho hL.1 hall
    have hgo : ∀ (y : Od) (z : Prop), y ∈ C → Anc ops x.1 y.1 ∨ z → z := fun y z hy h => by
     rcases h with hA | h4
     ·exfalso
      have hyl := (Array.getElem?_eq_some_iff.1 (hC.pa.at_ y (List.mem_append_left _ hy)).1).1
      exact hno y.1 hyl (hun y (List.mem_append_left _ hy) hyl) (anc_listed hcl hL.1 hA fun o' ho' e he hb => by rw [ho] at ho'; injection ho' with ho'; subst ho'; exact hall e he hb)
     ·exact h4
    rcases List.mem_append.1 hx with hxC | hxA
    ·obtain ⟨C1, C2, rfl⟩ := List.append_of_mem hxC
     have hox := (hC.pa.at_ x (by simp)).1
     rw [ho] at hox
     injection hox with hox
     obtain ⟨xn, xo, xk⟩ := x
     simp only at hox
     subst hox
     have hpw := hC.pa.pw
     rw [List.append_assoc, List.cons_append] at hpw
     obtain ⟨_, p2, p3⟩ := List.pairwise_append.1 hpw
     have p2 := (List.pairwise_cons.1 p2).1
     have hap : ∀ y ∈ C1, y.2.1.apart ops o = true ∧ y.2.2.apart xk = true := fun y hy => by
      rcases (p3 y hy (xn, o, xk) (List.mem_cons_self ..)).2.2 with hA | h4
      ·exfalso
       have hyl := (Array.getElem?_eq_some_iff.1 (hC.pa.at_ y (by simp [hy])).1).1
       exact hno y.1 hyl (hun y (by simp [hy]) hyl) (anc_listed hcl hL.1 hA fun o' ho' e he hb => by rw [ho] at ho'; injection ho' with ho'; subst ho'; exact hall e he hb)
      ·exact h4
     obtain ⟨hd, v, H1, hst, hrest⟩ := AWD.take hQ2 C1 F H hap h
     have hsub : (C1 ++ C2).Sublist (C1 ++ (xn, o, xk) :: C2) := (List.Sublist.refl C1).append (List.sublist_cons_self ..)
     have hL' : Left ops.size ((C1 ++ C2) ++ xi :: A) (listed.setIfInBounds xn true) := by
      have := Left.take (L1 := C1) (x := (xn, o, xk)) (L2 := C2 ++ xi :: A) (by simpa using hL) (fun y hy => by
       rcases List.mem_append.1 hy with hy | hy
       ·exact (p3 y hy _ (List.mem_cons_self ..)).1
       ·rcases List.mem_append.1 hy with hy | hy
        ·exact fun e => (p2 y (List.mem_append_left _ hy)).1 e.symm
        ·rcases List.mem_cons.1 hy with rfl | hy
         ·exact fun e => (hC.ci _ hxC).1 e.symm
         ·exact fun e => (p2 y (List.mem_append_right _ hy)).1 e.symm)
      rw [List.append_assoc]
      exact this
     exact ⟨xk, v, H1, hd, hst, awd_fork hQ hf n (C1 ++ C2) _ _ H1 (by simp at hn ⊢; omega) (hC.sub hsub) hL' hcl' hrest⟩
    ·by_cases ei : x.1 = xi.1
     ·have hA1 : AWD P G ops (Q .normal) (C ++ xi :: A) F H := AWD.app C (xi :: A) F H (AWD.mono (fun F H h => h.1) C F H h)
      have hox := hf.ai
      rw [← ei, ho] at hox
      injection hox with hox
      have hLt := Left.take hL fun y hy => (List.mem_append.1 hy).elim (fun hy => (hC.ci y hy).1) (hf.niA y)
      have hci : ∀ y ∈ C, y.2.1.apart ops xi.2.1 = true ∧ y.2.2.apart xi.2.2 = true := fun y hy => hgo y _ hy (by rw [ei]; exact (hC.ci y hy).2)
      rw [← ei] at hLt
      obtain ⟨xn, xo, xk⟩ := xi
      simp only at hox hci
      subst hox
      obtain ⟨hd, v, H1, hst, hrest⟩ := AWD.take hQ C F H hci hA1
      refine ⟨xk, v, H1, hd, hst, ?_⟩
      have := hC.pa.any hQ hLt hcl' hrest
      rw [show (C ++ A).length = n by simp at hn ⊢; omega] at this
      exact this
     ·by_cases ej : x.1 = xj.1
      ·have hB1 : AWD P G ops (Q .normal) (C ++ xj :: B) F H := AWD.app C (xj :: B) F H (AWD.mono (fun F H h => h.2) C F H h)
       have hox := hf.aj
       rw [← ej, ho] at hox
       injection hox with hox
       have hLB : Left ops.size (C ++ xj :: B) listed := ⟨hL.1, fun j hj => (hL.2 j hj).trans (by
        constructor
        ·rintro ⟨y, hy, e⟩
         rcases List.mem_append.1 hy with hy | hy
         ·exact ⟨y, List.mem_append_left _ hy, e⟩
         ·obtain ⟨z, hz, e2⟩ := (hf.same j).1 ⟨y, hy, e⟩
          exact ⟨z, List.mem_append_right _ hz, e2⟩
        ·rintro ⟨y, hy, e⟩
         rcases List.mem_append.1 hy with hy | hy
         ·exact ⟨y, List.mem_append_left _ hy, e⟩
         ·obtain ⟨z, hz, e2⟩ := (hf.same j).2 ⟨y, hy, e⟩
          exact ⟨z, List.mem_append_right _ hz, e2⟩)⟩
       have hLt := Left.take hLB fun y hy => (List.mem_append.1 hy).elim (fun hy => (hC.cj y hy).1) (hf.njB y)
       have hcj : ∀ y ∈ C, y.2.1.apart ops xj.2.1 = true ∧ y.2.2.apart xj.2.2 = true := fun y hy => hgo y _ hy (by rw [ej]; exact (hC.cj y hy).2)
       rw [← ej] at hLt
       have hlen := hf.len
       obtain ⟨xn, xo, xk⟩ := xj
       simp only at hox hcj
       subst hox
       obtain ⟨hd, v, H1, hst, hrest⟩ := AWD.take hQ C F H hcj hB1
       refine ⟨xk, v, H1, hd, hst, ?_⟩
       have := hC.pb.any hQ hLt hcl' hrest
       rw [show (C ++ B).length = n by simp at hn ⊢; omega] at this
       exact this
      ·exfalso
       rcases List.mem_cons.1 hxA with rfl | hxA'
       ·exact ei rfl
       ·obtain ⟨e, he, hb, y, hy, hye⟩ := hf.wait x hxA' ej
        obtain ⟨k1, k2⟩ := hC.pa.at_ x (List.mem_append_right _ hxA')
        rw [ho] at k1
        injection k1 with k1
        have hlt2 := (k2 e he hb).1
        rw [← hye] at hlt2
        refine hno y.1 hlt2 (hun y (List.mem_append_right _ hy) hlt2) ?_
        rw [hye]
        exact hall e (by rw [k1]; exact he) hb
   obtain ⟨k, v, H1, hd, hst, next⟩ := key
   unfold wpOpIn
   simp only [ho]
   obtain ⟨β, hs'⟩ := id hs
   rcases hst with ⟨hg, hsem⟩ | ⟨hg, rfl, rfl⟩
   ·rw [if_pos (guardA_ok hs' hg)]
    exact op_wp hd hsem.op hs fun r H' ⟨h4, h5⟩ => by subst h4; subst h5; exact next
   ·rw [if_neg (by rw [guardA_ok hs' hg]; simp)]
    exact ⟨fun _ _ => trivial, next _ _ ⟨β, hs'.undef hd⟩⟩
def ancB (ops : Array Oper) (y : Nat) : Nat → Nat → Bool
 | 0, _ => false
 | f + 1, x => match ops[x]? with
  | some o => o.after.toList.any fun e => Region.binds .any e && (Nat.beq e.on y || ancB ops y f e.on)
  | none => false
theorem ancB_ok {ops : Array Oper} {y : Nat} : ∀ (f x : Nat), ancB ops y f x = true → Anc ops x y
 | 0, _, h => by cases h
 | f + 1, x, h => by
  unfold ancB at h
  cases ho : ops[x]? with
  | none => rw [ho] at h; cases h
  | some o =>
   rw [ho] at h
   obtain ⟨e, he, hb⟩ := List.any_eq_true.1 h
   simp only [Bool.and_eq_true, Bool.or_eq_true] at hb
   rcases hb.2 with h1 | h1
   ·exact .base ho (by simpa using he) hb.1 (Nat.eq_of_beq_eq_true h1)
   ·exact .step ho (by simpa using he) hb.1 (ancB_ok f _ h1)
def noEdge (o : Oper) (n : Nat) : Bool := o.after.toList.all fun e => !Region.binds .any e || !Nat.beq e.on n
theorem noEdge_ok {o : Oper} {n : Nat} (h : noEdge o n = true) : ∀ e ∈ o.after, Region.binds .any e = true → e.on ≠ n := fun e he hb hn => by
 have := List.all_eq_true.1 h e (by simpa using he)
 rw [hb, hn] at this
 simp at this
def apB (ops : Array Oper) (y x : Od) : Bool := y.2.1.apart ops x.2.1 && y.2.2.apart x.2.2
def pwB (ops : Array Oper) (y x : Od) : Bool := !Nat.beq y.1 x.1 && (noEdge y.2.1 x.1 && (ancB ops y.1 14 x.1 || apB ops y x))
theorem neB {a b : Nat} (h : (!Nat.beq a b) = true) : a ≠ b := fun e => by subst e; simp at h
theorem pwB_ok {ops : Array Oper} {y x : Od} (h : pwB ops y x = true) : PwR ops y x := by
 simp only [pwB, apB, Bool.and_eq_true, Bool.or_eq_true] at h
 exact ⟨neB h.1, noEdge_ok h.2.1, h.2.2.imp (ancB_ok _ _) id⟩
def pwAll (ops : Array Oper) : List Od → Bool
 | [] => true
 | y :: r => r.all (pwB ops y) && pwAll ops r
theorem pwAll_ok {ops : Array Oper} : ∀ {L : List Od}, pwAll ops L = true → L.Pairwise (PwR ops)
 | [], _ => .nil
 | y :: r, h => by
  simp only [pwAll, Bool.and_eq_true] at h
  exact .cons (fun x hx => pwB_ok (List.all_eq_true.1 h.1 x hx)) (pwAll_ok h.2)
def ownB (ops : Array Oper) (x : Od) : Bool := x.2.1.after.toList.all fun e => !Region.binds .any e || (Nat.blt e.on ops.size && !Nat.beq e.on x.1)
theorem ownB_ok {ops : Array Oper} {x : Od} (h : ownB ops x = true) : ∀ e ∈ x.2.1.after, Region.binds .any e = true → e.on < ops.size ∧ e.on ≠ x.1 := fun e he hb => by
 have := List.all_eq_true.1 h e (by simpa using he)
 rw [hb] at this
 simp only [Bool.not_true, Bool.false_or, Bool.and_eq_true] at this
 exact ⟨Nat.le_of_ble_eq_true this.1, neB this.2⟩
def hasB (L : List Od) (n : Nat) : Bool := L.any fun y => Nat.beq y.1 n
theorem hasB_ok {L : List Od} {n : Nat} : hasB L n = true ↔ ∃ y ∈ L, y.1 = n := by
 unfold hasB
 rw [List.any_eq_true]
 exact ⟨fun ⟨y, hy, h⟩ => ⟨y, hy, Nat.eq_of_beq_eq_true h⟩, fun ⟨y, hy, h⟩ => ⟨y, hy, by rw [h]; simp⟩⟩
def forkOk (ops : Array Oper) (C : List Od) (xi : Od) (A : List Od) (xj : Od) (B : List Od) : Bool :=
 pwAll ops (C ++ A) && (pwAll ops (C ++ B) && ((C ++ A).all (ownB ops) && ((C ++ B).all (ownB ops) && (C.all (fun y => !Nat.beq y.1 xi.1 && (ancB ops y.1 14 xi.1 || apB ops y xi)) && (C.all (fun y => !Nat.beq y.1 xj.1 && (ancB ops y.1 14 xj.1 || apB ops y xj)) && (C.all (fun x => noEdge x.2.1 xi.1) &&
  (A.all (fun y => !Nat.beq y.1 xi.1) && (B.all (fun y => !Nat.beq y.1 xj.1) && (A.all (fun x => Nat.beq x.1 xj.1 || x.2.1.after.toList.any fun e => Region.binds .any e && hasB (xi :: A) e.on) &&
  (xi.2.1.after.toList.all (fun e => !Region.binds .any e || (Nat.blt e.on ops.size && (xi :: A).all fun y => !Nat.beq y.1 e.on)) && (Nat.beq (C.length + A.length + 1) ops.size && (Nat.beq A.length B.length && ((xi :: A).all (fun x => hasB (xj :: B) x.1) &&
  ((xj :: B).all (fun x => hasB (xi :: A) x.1) && (List.range ops.size).all fun n => hasB (C ++ xi :: A) n))))))))))))))
theorem fork_any {P : Program} {G : Gh} {Q : APost} {l : List Oper} {C : List Od} {xi : Od} {A : List Od} {xj : Od} {B : List Od} {F : Fr} {H : List AObj} (hops : ∀ x ∈ C ++ (xi :: A ++ xj :: B), l.toArray[x.1]? = some x.2.1) (hc : forkOk l.toArray C xi A xj B = true)
  (hQ : ∀ F F' H, FrEq F F' → Q .normal F H → Q .normal F' H)
  (h : AWD P G l.toArray (fun F H => AWD P G l.toArray (Q .normal) (xi :: A) F H ∧ AWD P G l.toArray (Q .normal) (xj :: B) F H) C F H) {a : Act} {w : World} (hs : St G F H a w) : wpAnyIn (fz G.rd) 0 P .any l.toArray (lift G Q) l.toArray.size (Array.replicate l.toArray.size false) a w := by
 simp only [forkOk, Bool.and_eq_true] at hc
 obtain ⟨c1, c2, c3, c4, c5, c6, c7, c8, c9, c10, c11, c12, c13, c14, c15, c16⟩ := hc
 have hoC : ∀ x ∈ C, l.toArray[x.1]? = some x.2.1 := fun x hx => hops x (List.mem_append_left _ hx)
 have hoA : ∀ x ∈ xi :: A, l.toArray[x.1]? = some x.2.1 := fun x hx => hops x (List.mem_append_right _ (List.mem_append_left _ hx))
 have hoB : ∀ x ∈ xj :: B, l.toArray[x.1]? = some x.2.1 := fun x hx => hops x (List.mem_append_right _ (List.mem_append_right _ hx))
 have hF : Fork l.toArray xi xj A B := by
  refine ⟨hoA _ (List.mem_cons_self ..), hoB _ (List.mem_cons_self ..), fun n => ⟨?_, ?_⟩, Nat.eq_of_beq_eq_true c13, fun y hy => neB (List.all_eq_true.1 c8 y hy), fun y hy => neB (List.all_eq_true.1 c9 y hy), fun x hx hne => ?_, fun e he hb => ?_⟩
  ·rintro ⟨x, hx, rfl⟩
   exact hasB_ok.1 (List.all_eq_true.1 c14 x hx)
  ·rintro ⟨x, hx, rfl⟩
   exact hasB_ok.1 (List.all_eq_true.1 c15 x hx)
  ·have := List.all_eq_true.1 c10 x hx
   simp only [Bool.or_eq_true] at this
   rcases this with h1 | h1
   ·exact absurd (Nat.eq_of_beq_eq_true h1) hne
   ·obtain ⟨e, he, hb⟩ := List.any_eq_true.1 h1
    simp only [Bool.and_eq_true] at hb
    exact ⟨e, by simpa using he, hb.1, hasB_ok.1 hb.2⟩
  ·have := List.all_eq_true.1 c11 e (by simpa using he)
   rw [hb] at this
   simp only [Bool.not_true, Bool.false_or, Bool.and_eq_true] at this
   exact ⟨Nat.le_of_ble_eq_true this.1, fun y hy => neB (List.all_eq_true.1 this.2 y hy)⟩
 have hFC : ForkC l.toArray xi xj A B C := by
  refine ⟨⟨pwAll_ok c1, fun x hx => ⟨(List.mem_append.1 hx).elim (hoC x) fun hy => hoA x (List.mem_cons_of_mem _ hy), ownB_ok (List.all_eq_true.1 c3 x hx)⟩⟩,
   ⟨pwAll_ok c2, fun x hx => ⟨(List.mem_append.1 hx).elim (hoC x) fun hy => hoB x (List.mem_cons_of_mem _ hy), ownB_ok (List.all_eq_true.1 c4 x hx)⟩⟩, fun y hy => ?_, fun y hy => ?_, fun x hx => noEdge_ok (List.all_eq_true.1 c7 x hx)⟩
  ·have := List.all_eq_true.1 c5 y hy
   simp only [apB, Bool.and_eq_true, Bool.or_eq_true] at this
   exact ⟨neB this.1, this.2.imp (ancB_ok _ _) id⟩
  ·have := List.all_eq_true.1 c6 y hy
   simp only [apB, Bool.and_eq_true, Bool.or_eq_true] at this
   exact ⟨neB this.1, this.2.imp (ancB_ok _ _) id⟩
 refine awd_fork hQ hF _ C _ F H (Nat.eq_of_beq_eq_true c12).symm hFC ⟨by simp, fun n hn => ?_⟩ ?_ h a w hs
 ·have hn' : n < l.length := by simpa using hn
  exact ⟨fun _ => hasB_ok.1 (List.all_eq_true.1 c16 n (List.mem_range.2 hn)), fun _ => by simp [hn']⟩
 ·intro z o ho hz
  have hlt := (Array.getElem?_eq_some_iff.1 ho).1
  simp at hlt
  simp [hlt] at hz
section
variable {P : Program} {G : Gh} {Q : APost} {F : Fr} {H : List AObj} {k : Kt}
theorem jfork [T : TyTab P] {id : Nat} {l : List Oper} (C : List (Nat × K)) (xi : Nat × K) (A : List (Nat × K)) (xj : Nat × K) (B : List (Nat × K)) (hp : (C ++ (xi :: A ++ xj :: B)).all (fun x => Nat.blt x.1 l.length) = true)
  (hc : forkOk l.toArray (plan l C) (xi.1, l.getD xi.1 default, xi.2) (plan l A) (xj.1, l.getD xj.1 default, xj.2) (plan l B) = true)
  (next : J P G Q (.d l.toArray (plan l C) (.lp (fun F H => J P G Q (.d l.toArray ((xi.1, l.getD xi.1 default, xi.2) :: plan l A) k) F H ∧ J P G Q (.d l.toArray ((xj.1, l.getD xj.1 default, xj.2) :: plan l B) k) F H) .nil)) F H) :
  J P G Q (.c (.region id l.toArray true) k) F H := by
 intro a w hs
 have hs : St G F H a { w with drawn := w.drawn + 1 } := by
  obtain ⟨β, hs⟩ := hs
  exact ⟨β, hs.world (hs.inv.same (drew_same w)) ((drew_same w).step β)⟩
 let Q' : APost := fun e F H => ∃ F0, FrEq F0 F ∧ post P G Q k e F0 H
 have hQ' : ∀ F F' H, FrEq F F' → Q' .normal F H → Q' .normal F' H := fun F F' H he ⟨F0, h0, h1⟩ => ⟨F0, fun t => (h0 t).trans (he t), h1⟩
 have hops : ∀ x ∈ plan l C ++ (((xi.1, l.getD xi.1 default, xi.2) :: plan l A) ++ (xj.1, l.getD xj.1 default, xj.2) :: plan l B), l.toArray[x.1]? = some x.2.1 := fun x hx => by
  simp only [List.all_append, List.all_cons, Bool.and_eq_true] at hp
  obtain ⟨p1, ⟨p2, p3⟩, p4, p5⟩ := hp
  have one : ∀ {y : Nat × K}, Nat.blt y.1 l.length = true → l.toArray[y.1]? = some (l.getD y.1 default) := fun {y} hy => by
   have hlt : y.1 < l.length := Nat.le_of_ble_eq_true hy
   simp [List.getD, hlt]
  rcases List.mem_append.1 hx with hx | hx
  ·exact plan_ops p1 x hx
  ·rcases List.mem_append.1 hx with hx | hx
   ·rcases List.mem_cons.1 hx with rfl | hx
    ·exact one p2
    ·exact plan_ops p3 x hx
   ·rcases List.mem_cons.1 hx with rfl | hx
    ·exact one p4
    ·exact plan_ops p5 x hx
 have h' : AWD P G l.toArray (fun F H => AWD P G l.toArray (Q' .normal) ((xi.1, l.getD xi.1 default, xi.2) :: plan l A) F H ∧ AWD P G l.toArray (Q' .normal) ((xj.1, l.getD xj.1 default, xj.2) :: plan l B) F H) (plan l C) F H := by
  refine AWD.mono ?_ _ F H next
  intro F H ⟨h1, h2⟩
  exact ⟨AWD.mono (fun F H h => ⟨F, fun _ => rfl, h⟩) _ F H h1, AWD.mono (fun F H h => ⟨F, fun _ => rfl, h⟩) _ F H h2⟩
 refine wpIn_mono (wpIn_region_any T.mixed (Q := lift G Q') (fork_any hops hc hQ' h' hs)) ?_
 intro e a' w' he
 cases e with
 | normal => obtain ⟨F', H', ⟨F0, h0, h1⟩, h2⟩ := he; exact ⟨F0, H', h1, h2.eq (fun t => (h0 t).symm)⟩
 | ret => obtain ⟨F', H', ⟨F0, h0, h1⟩, h2⟩ := he; exact ⟨F0, H', h1, h2.eq (fun t => (h0 t).symm)⟩
 | exit id => obtain ⟨F', H', ⟨F0, h0, h1⟩, h2⟩ := he; exact ⟨F0, H', h1, h2.eq (fun t => (h0 t).symm)⟩
 | panic ch =>
  obtain ⟨v, F', H', β, u, ⟨F0, h0, h1⟩, h2, h3, h4⟩ := he
  exact ⟨v, F0, H', β, u, h1, ⟨h2.inv, h2.step, h2.extOk, h2.size, h2.defers, fun t v ht => h2.get t v (by rw [← h0 t]; exact ht)⟩, h3, h4⟩
 | goto l => exact he.elim
 | outgrown => exact he.elim
theorem jfk {R1 R2 : Fr → List AObj → Prop} {k : Kt} (h1 : R1 F H) (h2 : R2 F H) : J P G Q (.e .normal (.lp (fun F H => R1 F H ∧ R2 F H) k)) F H := ⟨h1, h2⟩
end
end Go.AL
end
section
namespace Go.AL
open Go Go.Proofs
set_option maxRecDepth 100000
def ty2 : TyRow := ⟨2, .int .i64, .int .i64 0, 1, 8⟩
def ty3 : TyRow := ⟨3, .int .i64, .int .i64 0, 1, 8⟩
def ty9 : TyRow := ⟨9, .string, .string .empty, 1, 16⟩
def ty43 : TyRow := ⟨43, .struct #[⟨"Pc", 3, 0, false, "", "", 0⟩, ⟨"Regs", 40, 1, false, "", "", 8⟩, ⟨"Frames", 41, 9, false, "", "", 72⟩, ⟨"State", 3, 10, false, "", "", 96⟩, ⟨"Fault", 34, 11, false, "", "", 104⟩, ⟨"Left", 23, 12, false, "", "", 112⟩], .agg #[.int .i64 0, .int .i64 0, .int .i64 0, .int .i64 0, .int .i64 0, .int .i64 0, .int .i64 0, .int .i64 0, .int .i64 0, .slice none 0 0, .int .i64 0, .int .i64 0, .slice none 0 0], 13, 136⟩
def ty49 : TyRow := ⟨49, .struct #[⟨"Kind", 3, 0, false, "", "", 0⟩, ⟨"Thread", 3, 1, false, "", "", 8⟩, ⟨"Words", 47, 2, false, "", "", 16⟩], .agg #[.int .i64 0, .int .i64 0, .int .i64 0, .int .i64 0, .int .i64 0, .int .i64 0], 6, 48⟩
def ty159 : TyRow := ⟨159, .slice 222, .slice none 0 0, 1, 24⟩
def ty174 : TyRow := ⟨174, .struct #[⟨"Back", 3, 0, false, "", "", 0⟩, ⟨"Kept", 47, 1, false, "", "", 8⟩], .agg #[.int .i64 0, .int .i64 0, .int .i64 0, .int .i64 0, .int .i64 0], 5, 40⟩
def ty213 : TyRow := ⟨213, .struct #[⟨"name", 9, 0, false, "", "respite/asm", 0⟩, ⟨"kinds", 9, 1, false, "", "respite/asm", 16⟩], .agg #[.string .empty, .string .empty], 2, 32⟩
def ty222 : TyRow := ⟨222, .struct #[⟨"At", 3, 0, false, "", "", 0⟩, ⟨"Value", 3, 1, false, "", "", 8⟩], .agg #[.int .i64 0, .int .i64 0], 2, 16⟩
def ty279 : TyRow := ⟨279, .struct #[⟨"why", 34, 0, false, "", "respite/step", 0⟩], .agg #[.int .i64 0], 1, 8⟩
def tyRows : List TyRow := [ty2,
 ty3,
 ⟨4, .bool, .bool false, 1, 1⟩,
 ⟨5, .int .u8, .int .u8 0, 1, 1⟩,
 ⟨6, .int .u8, .int .u8 0, 1, 1⟩,
 ty9,
 ⟨10, .string, .string .empty, 1, 16⟩,
 ⟨11, .string, .string .empty, 1, 16⟩,
 ⟨12, .int .u64, .int .u64 0, 1, 8⟩,
 ⟨15, .pointer 373, .pointer none, 1, 8⟩,
 ⟨16, .pointer 376, .pointer none, 1, 8⟩,
 ⟨17, .pointer 383, .pointer none, 1, 8⟩,
 ⟨20, .interface #[], .nilIface, 1, 16⟩,
 ⟨21, .int .i32, .int .i32 0, 1, 4⟩,
 ⟨22, .slice 46, .slice none 0 0, 1, 24⟩,
 ⟨23, .slice 3, .slice none 0 0, 1, 24⟩,
 ⟨24, .slice 176, .slice none 0 0, 1, 24⟩,
 ⟨25, .struct #[⟨"Words", 23, 0, false, "", "", 0⟩, ⟨"Tags", 23, 1, false, "", "", 24⟩], .agg #[.slice none 0 0, .slice none 0 0], 2, 48⟩,
 ⟨26, .struct #[⟨"Words", 23, 0, false, "", "", 0⟩, ⟨"Tags", 23, 1, false, "", "", 24⟩], .agg #[.slice none 0 0, .slice none 0 0], 2, 48⟩,
 ⟨27, .slice 159, .slice none 0 0, 1, 24⟩,
 ⟨28, .struct #[⟨"Memory", 26, 0, false, "", "", 0⟩, ⟨"Depth", 3, 2, false, "", "", 48⟩, ⟨"Buffers", 27, 3, false, "", "", 56⟩], .agg #[.slice none 0 0, .slice none 0 0, .int .i64 0, .slice none 0 0], 4, 80⟩,
 ⟨29, .struct #[⟨"Memory", 26, 0, false, "", "", 0⟩, ⟨"Depth", 3, 2, false, "", "", 48⟩, ⟨"Buffers", 27, 3, false, "", "", 56⟩], .agg #[.slice none 0 0, .slice none 0 0, .int .i64 0, .slice none 0 0], 4, 80⟩,
 ⟨30, .slice 43, .slice none 0 0, 1, 24⟩,
 ⟨31, .slice 49, .slice none 0 0, 1, 24⟩,
 ⟨32, .struct #[⟨"Code", 24, 0, false, "", "", 0⟩, ⟨"Tso", 29, 1, false, "", "", 24⟩, ⟨"Threads", 30, 5, false, "", "", 104⟩, ⟨"Events", 31, 6, false, "", "", 128⟩], .agg #[.slice none 0 0, .slice none 0 0, .slice none 0 0, .int .i64 0, .slice none 0 0, .slice none 0 0, .slice none 0 0], 7, 152⟩,
 ⟨33, .struct #[⟨"Code", 24, 0, false, "", "", 0⟩, ⟨"Tso", 29, 1, false, "", "", 24⟩, ⟨"Threads", 30, 5, false, "", "", 104⟩, ⟨"Events", 31, 6, false, "", "", 128⟩], .agg #[.slice none 0 0, .slice none 0 0, .slice none 0 0, .int .i64 0, .slice none 0 0, .slice none 0 0, .slice none 0 0], 7, 152⟩,
 ⟨34, .int .i64, .int .i64 0, 1, 8⟩,
 ⟨40, .array 8 3, .agg #[.int .i64 0, .int .i64 0, .int .i64 0, .int .i64 0, .int .i64 0, .int .i64 0, .int .i64 0, .int .i64 0], 8, 64⟩,
 ⟨41, .slice 174, .slice none 0 0, 1, 24⟩,
 ⟨42, .struct #[⟨"Pc", 3, 0, false, "", "", 0⟩, ⟨"Regs", 40, 1, false, "", "", 8⟩, ⟨"Frames", 41, 9, false, "", "", 72⟩, ⟨"State", 3, 10, false, "", "", 96⟩, ⟨"Fault", 34, 11, false, "", "", 104⟩, ⟨"Left", 23, 12, false, "", "", 112⟩], .agg #[.int .i64 0, .int .i64 0, .int .i64 0, .int .i64 0, .int .i64 0, .int .i64 0, .int .i64 0, .int .i64 0, .int .i64 0, .slice none 0 0, .int .i64 0, .int .i64 0, .slice none 0 0], 13, 136⟩,
 ty43,
 ⟨45, .struct #[⟨"Key", 3, 0, false, "", "", 0⟩, ⟨"Value", 3, 1, false, "", "", 8⟩], .agg #[.int .i64 0, .int .i64 0], 2, 16⟩,
 ⟨46, .struct #[⟨"Key", 3, 0, false, "", "", 0⟩, ⟨"Value", 3, 1, false, "", "", 8⟩], .agg #[.int .i64 0, .int .i64 0], 2, 16⟩,
 ⟨47, .array 4 3, .agg #[.int .i64 0, .int .i64 0, .int .i64 0, .int .i64 0], 4, 32⟩,
 ⟨48, .struct #[⟨"Kind", 3, 0, false, "", "", 0⟩, ⟨"Thread", 3, 1, false, "", "", 8⟩, ⟨"Words", 47, 2, false, "", "", 16⟩], .agg #[.int .i64 0, .int .i64 0, .int .i64 0, .int .i64 0, .int .i64 0, .int .i64 0], 6, 48⟩,
 ty49,
 ⟨51, .slice 106, .slice none 0 0, 1, 24⟩,
 ⟨64, .func #[33] #[4, 34] false, .nilFunc, 1, 8⟩,
 ⟨68, .slice 119, .slice none 0 0, 1, 24⟩,
 ⟨83, .pointer 86, .pointer none, 1, 8⟩,
 ⟨84, .slice 5, .slice none 0 0, 1, 24⟩,
 ⟨85, .struct #[⟨"addr", 83, 0, false, "", "strings", 0⟩, ⟨"buf", 84, 1, false, "", "strings", 8⟩], .agg #[.pointer none, .slice none 0 0], 2, 32⟩,
 ⟨86, .struct #[⟨"addr", 83, 0, false, "", "strings", 0⟩, ⟨"buf", 84, 1, false, "", "strings", 8⟩], .agg #[.pointer none, .slice none 0 0], 2, 32⟩,
 ⟨87, .interface #[("Error", 95)], .nilIface, 1, 16⟩,
 ⟨88, .interface #[("Error", 95)], .nilIface, 1, 16⟩,
 ⟨96, .slice 9, .slice none 0 0, 1, 24⟩,
 ⟨98, .pointer 100, .pointer none, 1, 8⟩,
 ⟨99, .struct #[⟨"w", 33, 0, false, "", "respite/sched", 0⟩, ⟨"done", 3, 7, false, "", "respite/sched", 152⟩], .agg #[.slice none 0 0, .slice none 0 0, .slice none 0 0, .int .i64 0, .slice none 0 0, .slice none 0 0, .slice none 0 0, .int .i64 0], 8, 160⟩,
 ⟨100, .struct #[⟨"w", 33, 0, false, "", "respite/sched", 0⟩, ⟨"done", 3, 7, false, "", "respite/sched", 152⟩], .agg #[.slice none 0 0, .slice none 0 0, .slice none 0 0, .int .i64 0, .slice none 0 0, .slice none 0 0, .slice none 0 0, .int .i64 0], 8, 160⟩,
 ⟨101, .func #[3] #[4] false, .nilFunc, 1, 8⟩,
 ⟨105, .struct #[⟨"Kind", 3, 0, false, "", "", 0⟩, ⟨"Thread", 3, 1, false, "", "", 8⟩], .agg #[.int .i64 0, .int .i64 0], 2, 16⟩,
 ⟨106, .struct #[⟨"Kind", 3, 0, false, "", "", 0⟩, ⟨"Thread", 3, 1, false, "", "", 8⟩], .agg #[.int .i64 0, .int .i64 0], 2, 16⟩,
 ⟨108, .pointer 110, .pointer none, 1, 8⟩,
 ⟨109, .struct #[⟨"Memory", 26, 0, true, "", "", 0⟩, ⟨"bad", 34, 2, false, "", "respite/chain", 48⟩], .agg #[.slice none 0 0, .slice none 0 0, .int .i64 0], 3, 56⟩,
 ⟨110, .struct #[⟨"Memory", 26, 0, true, "", "", 0⟩, ⟨"bad", 34, 2, false, "", "respite/chain", 48⟩], .agg #[.slice none 0 0, .slice none 0 0, .int .i64 0], 3, 56⟩,
 ⟨116, .array 3 3, .agg #[.int .i64 0, .int .i64 0, .int .i64 0], 3, 24⟩,
 ⟨117, .struct #[⟨"Kind", 3, 0, false, "", "", 0⟩, ⟨"At", 3, 1, false, "", "", 8⟩, ⟨"Value", 3, 2, false, "", "", 16⟩], .agg #[.int .i64 0, .int .i64 0, .int .i64 0], 3, 24⟩,
 ⟨118, .struct #[⟨"Kind", 3, 0, false, "", "", 0⟩, ⟨"At", 3, 1, false, "", "", 8⟩, ⟨"Value", 3, 2, false, "", "", 16⟩], .agg #[.int .i64 0, .int .i64 0, .int .i64 0], 3, 24⟩,
 ⟨119, .slice 118, .slice none 0 0, 1, 24⟩,
 ⟨120, .func #[131] #[] false, .nilFunc, 1, 8⟩,
 ⟨121, .struct #[⟨"reader", 120, 0, false, "", "respite/urcu", 0⟩, ⟨"writer", 120, 1, false, "", "respite/urcu", 8⟩], .agg #[.nilFunc, .nilFunc], 2, 16⟩,
 ⟨122, .struct #[⟨"reader", 120, 0, false, "", "respite/urcu", 0⟩, ⟨"writer", 120, 1, false, "", "respite/urcu", 8⟩], .agg #[.nilFunc, .nilFunc], 2, 16⟩,
 ⟨123, .array 2 122, .agg #[.nilFunc, .nilFunc, .nilFunc, .nilFunc], 4, 32⟩,
 ⟨125, .pointer 129, .pointer none, 1, 8⟩,
 ⟨126, .struct #[⟨"Builder", 86, 0, true, "", "", 0⟩], .agg #[.pointer none, .slice none 0 0], 2, 32⟩,
 ⟨127, .struct #[⟨"Builder", 86, 0, true, "", "", 0⟩], .agg #[.pointer none, .slice none 0 0], 2, 32⟩,
 ⟨128, .struct #[⟨"builder", 127, 0, true, "", "respite/urcu", 0⟩, ⟨"flavour", 122, 2, true, "", "respite/urcu", 32⟩], .agg #[.pointer none, .slice none 0 0, .nilFunc, .nilFunc], 4, 48⟩,
 ⟨129, .struct #[⟨"builder", 127, 0, true, "", "respite/urcu", 0⟩, ⟨"flavour", 122, 2, true, "", "respite/urcu", 32⟩], .agg #[.pointer none, .slice none 0 0, .nilFunc, .nilFunc], 4, 48⟩,
 ⟨131, .pointer 127, .pointer none, 1, 8⟩,
 ⟨144, .map 3 3, .map none, 1, 8⟩,
 ⟨149, .struct #[⟨"label", 9, 0, false, "", "respite/sched", 0⟩], .agg #[.string .empty], 1, 16⟩,
 ⟨150, .struct #[⟨"label", 9, 0, false, "", "respite/sched", 0⟩], .agg #[.string .empty], 1, 16⟩,
 ⟨152, .pointer 150, .pointer none, 1, 8⟩,
 ⟨154, .pointer 5, .pointer none, 1, 8⟩,
 ty159,
 ⟨166, .array 2 101, .agg #[.nilFunc, .nilFunc], 2, 16⟩,
 ⟨173, .struct #[⟨"Back", 3, 0, false, "", "", 0⟩, ⟨"Kept", 47, 1, false, "", "", 8⟩], .agg #[.int .i64 0, .int .i64 0, .int .i64 0, .int .i64 0, .int .i64 0], 5, 40⟩,
 ty174,
 ⟨175, .struct #[⟨"Op", 3, 0, false, "", "", 0⟩, ⟨"A", 3, 1, false, "", "", 8⟩, ⟨"B", 3, 2, false, "", "", 16⟩, ⟨"C", 3, 3, false, "", "", 24⟩], .agg #[.int .i64 0, .int .i64 0, .int .i64 0, .int .i64 0], 4, 32⟩,
 ⟨176, .struct #[⟨"Op", 3, 0, false, "", "", 0⟩, ⟨"A", 3, 1, false, "", "", 8⟩, ⟨"B", 3, 2, false, "", "", 16⟩, ⟨"C", 3, 3, false, "", "", 24⟩], .agg #[.int .i64 0, .int .i64 0, .int .i64 0, .int .i64 0], 4, 32⟩,
 ⟨186, .map 9 3, .map none, 1, 8⟩,
 ⟨188, .map 5 251, .map none, 1, 8⟩,
 ⟨199, .int .u64, .int .u64 0, 1, 8⟩,
 ⟨203, .interface #[("AssignableTo", 208), ("Comparable", 37), ("Elem", 205), ("Implements", 208), ("Kind", 207), ("Name", 95), ("PkgPath", 95), ("Size", 384), ("String", 95), ("internal/reflectlite.common", 377), ("internal/reflectlite.uncommon", 385)], .nilIface, 1, 16⟩,
 ⟨204, .interface #[("AssignableTo", 208), ("Comparable", 37), ("Elem", 205), ("Implements", 208), ("Kind", 207), ("Name", 95), ("PkgPath", 95), ("Size", 384), ("String", 95), ("internal/reflectlite.common", 377), ("internal/reflectlite.uncommon", 385)], .nilIface, 1, 16⟩,
 ⟨206, .int .u8, .int .u8 0, 1, 1⟩,
 ⟨212, .struct #[⟨"name", 9, 0, false, "", "respite/asm", 0⟩, ⟨"kinds", 9, 1, false, "", "respite/asm", 16⟩], .agg #[.string .empty, .string .empty], 2, 32⟩,
 ty213,
 ⟨214, .array 27 213, .agg #[.string .empty, .string .empty, .string .empty, .string .empty, .string .empty, .string .empty, .string .empty, .string .empty, .string .empty, .string .empty, .string .empty, .string .empty, .string .empty, .string .empty, .string .empty, .string .empty, .string .empty, .string .empty, .string .empty, .string .empty, .string .empty, .string .empty, .string .empty, .string .empty, .string .empty, .string .empty, .string .empty, .string .empty, .string .empty, .string .empty, .string .empty, .string .empty, .string .empty, .string .empty, .string .empty, .string .empty, .string .empty, .string .empty, .string .empty, .string .empty, .string .empty, .string .empty, .string .empty, .string .empty, .string .empty, .string .empty, .string .empty, .string .empty, .string .empty, .string .empty, .string .empty, .string .empty, .string .empty, .string .empty], 54, 864⟩,
 ⟨217, .func #[176] #[4] false, .nilFunc, 1, 8⟩,
 ⟨221, .struct #[⟨"At", 3, 0, false, "", "", 0⟩, ⟨"Value", 3, 1, false, "", "", 8⟩], .agg #[.int .i64 0, .int .i64 0], 2, 16⟩,
 ty222,
 ⟨228, .pointer 233, .pointer none, 1, 8⟩,
 ⟨232, .struct #[⟨"World", 33, 0, true, "", "", 0⟩, ⟨"who", 3, 7, false, "", "respite/step", 152⟩, ⟨"own", 43, 8, false, "", "respite/step", 160⟩, ⟨"Instr", 176, 21, true, "", "", 296⟩], .agg #[.slice none 0 0, .slice none 0 0, .slice none 0 0, .int .i64 0, .slice none 0 0, .slice none 0 0, .slice none 0 0, .int .i64 0, .int .i64 0, .int .i64 0, .int .i64 0, .int .i64 0, .int .i64 0, .int .i64 0, .int .i64 0, .int .i64 0, .int .i64 0, .slice none 0 0, .int .i64 0, .int .i64 0, .slice none 0 0, .int .i64 0, .int .i64 0, .int .i64 0, .int .i64 0], 25, 328⟩,
 ⟨233, .struct #[⟨"World", 33, 0, true, "", "", 0⟩, ⟨"who", 3, 7, false, "", "respite/step", 152⟩, ⟨"own", 43, 8, false, "", "respite/step", 160⟩, ⟨"Instr", 176, 21, true, "", "", 296⟩], .agg #[.slice none 0 0, .slice none 0 0, .slice none 0 0, .int .i64 0, .slice none 0 0, .slice none 0 0, .slice none 0 0, .int .i64 0, .int .i64 0, .int .i64 0, .int .i64 0, .int .i64 0, .int .i64 0, .int .i64 0, .int .i64 0, .int .i64 0, .int .i64 0, .slice none 0 0, .int .i64 0, .int .i64 0, .slice none 0 0, .int .i64 0, .int .i64 0, .int .i64 0, .int .i64 0], 25, 328⟩,
 ⟨239, .array 3 34, .agg #[.int .i64 0, .int .i64 0, .int .i64 0], 3, 24⟩,
 ⟨244, .array 24 5, .agg #[.int .u8 0, .int .u8 0, .int .u8 0, .int .u8 0, .int .u8 0, .int .u8 0, .int .u8 0, .int .u8 0, .int .u8 0, .int .u8 0, .int .u8 0, .int .u8 0, .int .u8 0, .int .u8 0, .int .u8 0, .int .u8 0, .int .u8 0, .int .u8 0, .int .u8 0, .int .u8 0, .int .u8 0, .int .u8 0, .int .u8 0, .int .u8 0], 24, 24⟩,
 ⟨245, .int .u64, .int .u64 0, 1, 8⟩,
 ⟨251, .func #[9] #[3, 34] false, .nilFunc, 1, 8⟩,
 ⟨256, .func #[9, 9] #[96] false, .nilFunc, 1, 8⟩,
 ⟨258, .slice 213, .slice none 0 0, 1, 24⟩,
 ⟨260, .struct #[⟨"Type", 17, 0, true, "", "", 0⟩], .agg #[.pointer none], 1, 8⟩,
 ⟨261, .struct #[⟨"Type", 17, 0, true, "", "", 0⟩], .agg #[.pointer none], 1, 8⟩,
 ⟨262, .pointer 387, .pointer none, 1, 8⟩,
 ⟨266, .interface #[("As", 268)], .nilIface, 1, 16⟩,
 ⟨269, .interface #[("Unwrap", 270)], .nilIface, 1, 16⟩,
 ⟨271, .interface #[("Unwrap", 273)], .nilIface, 1, 16⟩,
 ⟨272, .slice 88, .slice none 0 0, 1, 24⟩,
 ⟨278, .struct #[⟨"why", 34, 0, false, "", "respite/step", 0⟩], .agg #[.int .i64 0], 1, 8⟩,
 ty279,
 ⟨295, .array 20 245, .agg #[.int .u64 0, .int .u64 0, .int .u64 0, .int .u64 0, .int .u64 0, .int .u64 0, .int .u64 0, .int .u64 0, .int .u64 0, .int .u64 0, .int .u64 0, .int .u64 0, .int .u64 0, .int .u64 0, .int .u64 0, .int .u64 0, .int .u64 0, .int .u64 0, .int .u64 0, .int .u64 0], 20, 160⟩,
 ⟨296, .int .u32, .int .u32 0, 1, 4⟩,
 ⟨298, .int .u64, .int .u64 0, 1, 8⟩,
 ⟨304, .func #[312] #[] false, .nilFunc, 1, 8⟩,
 ⟨305, .struct #[⟨"registers", 3, 0, false, "", "respite/local", 0⟩, ⟨"target", 3, 1, false, "", "respite/local", 8⟩, ⟨"do", 304, 2, false, "", "respite/local", 16⟩], .agg #[.int .i64 0, .int .i64 0, .nilFunc], 3, 24⟩,
 ⟨306, .struct #[⟨"registers", 3, 0, false, "", "respite/local", 0⟩, ⟨"target", 3, 1, false, "", "respite/local", 8⟩, ⟨"do", 304, 2, false, "", "respite/local", 16⟩], .agg #[.int .i64 0, .int .i64 0, .nilFunc], 3, 24⟩,
 ⟨307, .array 16 306, .agg #[.int .i64 0, .int .i64 0, .nilFunc, .int .i64 0, .int .i64 0, .nilFunc, .int .i64 0, .int .i64 0, .nilFunc, .int .i64 0, .int .i64 0, .nilFunc, .int .i64 0, .int .i64 0, .nilFunc, .int .i64 0, .int .i64 0, .nilFunc, .int .i64 0, .int .i64 0, .nilFunc, .int .i64 0, .int .i64 0, .nilFunc, .int .i64 0, .int .i64 0, .nilFunc, .int .i64 0, .int .i64 0, .nilFunc, .int .i64 0, .int .i64 0, .nilFunc, .int .i64 0, .int .i64 0, .nilFunc, .int .i64 0, .int .i64 0, .nilFunc, .int .i64 0, .int .i64 0, .nilFunc, .int .i64 0, .int .i64 0, .nilFunc, .int .i64 0, .int .i64 0, .nilFunc], 48, 384⟩,
 ⟨312, .pointer 314, .pointer none, 1, 8⟩,
 ⟨313, .struct #[⟨"Thread", 43, 0, true, "", "", 0⟩, ⟨"self", 3, 13, false, "", "respite/local", 136⟩, ⟨"Instr", 176, 14, true, "", "", 144⟩], .agg #[.int .i64 0, .int .i64 0, .int .i64 0, .int .i64 0, .int .i64 0, .int .i64 0, .int .i64 0, .int .i64 0, .int .i64 0, .slice none 0 0, .int .i64 0, .int .i64 0, .slice none 0 0, .int .i64 0, .int .i64 0, .int .i64 0, .int .i64 0, .int .i64 0], 18, 176⟩,
 ⟨314, .struct #[⟨"Thread", 43, 0, true, "", "", 0⟩, ⟨"self", 3, 13, false, "", "respite/local", 136⟩, ⟨"Instr", 176, 14, true, "", "", 144⟩], .agg #[.int .i64 0, .int .i64 0, .int .i64 0, .int .i64 0, .int .i64 0, .int .i64 0, .int .i64 0, .int .i64 0, .int .i64 0, .slice none 0 0, .int .i64 0, .int .i64 0, .slice none 0 0, .int .i64 0, .int .i64 0, .int .i64 0, .int .i64 0, .int .i64 0], 18, 176⟩,
 ⟨328, .struct #[⟨"Tso", 29, 0, true, "", "", 0⟩], .agg #[.slice none 0 0, .slice none 0 0, .int .i64 0, .slice none 0 0], 4, 80⟩,
 ⟨329, .struct #[⟨"Tso", 29, 0, true, "", "", 0⟩], .agg #[.slice none 0 0, .slice none 0 0, .int .i64 0, .slice none 0 0], 4, 80⟩,
 ⟨334, .func #[3, 3, 3] #[3] false, .nilFunc, 1, 8⟩,
 ⟨335, .array 3 334, .agg #[.nilFunc, .nilFunc, .nilFunc], 3, 24⟩,
 ⟨339, .array 32 5, .agg #[.int .u8 0, .int .u8 0, .int .u8 0, .int .u8 0, .int .u8 0, .int .u8 0, .int .u8 0, .int .u8 0, .int .u8 0, .int .u8 0, .int .u8 0, .int .u8 0, .int .u8 0, .int .u8 0, .int .u8 0, .int .u8 0, .int .u8 0, .int .u8 0, .int .u8 0, .int .u8 0, .int .u8 0, .int .u8 0, .int .u8 0, .int .u8 0, .int .u8 0, .int .u8 0, .int .u8 0, .int .u8 0, .int .u8 0, .int .u8 0, .int .u8 0, .int .u8 0], 32, 32⟩,
 ⟨341, .int .i64, .int .i64 0, 1, 8⟩,
 ⟨344, .pointer 359, .pointer none, 1, 8⟩,
 ⟨354, .pointer 329, .pointer none, 1, 8⟩,
 ⟨358, .struct #[⟨"Func", 9, 0, false, "", "", 0⟩, ⟨"Num", 9, 1, false, "", "", 16⟩, ⟨"Err", 88, 2, false, "", "", 32⟩], .agg #[.string .empty, .string .empty, .nilIface], 3, 48⟩,
 ⟨359, .struct #[⟨"Func", 9, 0, false, "", "", 0⟩, ⟨"Num", 9, 1, false, "", "", 16⟩, ⟨"Err", 88, 2, false, "", "", 32⟩], .agg #[.string .empty, .string .empty, .nilIface], 3, 48⟩,
 ⟨363, .pointer 365, .pointer none, 1, 8⟩,
 ⟨364, .struct #[⟨"s", 9, 0, false, "", "errors", 0⟩], .agg #[.string .empty], 1, 16⟩,
 ⟨365, .struct #[⟨"s", 9, 0, false, "", "errors", 0⟩], .agg #[.string .empty], 1, 16⟩,
 ⟨367, .struct #[⟨"lo", 5, 0, false, "", "unicode/utf8", 0⟩, ⟨"hi", 5, 1, false, "", "unicode/utf8", 1⟩], .agg #[.int .u8 0, .int .u8 0], 2, 2⟩,
 ⟨368, .struct #[⟨"lo", 5, 0, false, "", "unicode/utf8", 0⟩, ⟨"hi", 5, 1, false, "", "unicode/utf8", 1⟩], .agg #[.int .u8 0, .int .u8 0], 2, 2⟩,
 ⟨369, .array 16 368, .agg #[.int .u8 0, .int .u8 0, .int .u8 0, .int .u8 0, .int .u8 0, .int .u8 0, .int .u8 0, .int .u8 0, .int .u8 0, .int .u8 0, .int .u8 0, .int .u8 0, .int .u8 0, .int .u8 0, .int .u8 0, .int .u8 0, .int .u8 0, .int .u8 0, .int .u8 0, .int .u8 0, .int .u8 0, .int .u8 0, .int .u8 0, .int .u8 0, .int .u8 0, .int .u8 0, .int .u8 0, .int .u8 0, .int .u8 0, .int .u8 0, .int .u8 0, .int .u8 0], 32, 32⟩,
 ⟨374, .array 0 16, .agg #[], 0, 0⟩,
 ⟨378, .int .u8, .int .u8 0, 1, 1⟩,
 ⟨379, .func #[183, 183] #[4] false, .nilFunc, 1, 8⟩,
 ⟨380, .int .i32, .int .i32 0, 1, 4⟩,
 ⟨381, .int .i32, .int .i32 0, 1, 4⟩,
 ⟨382, .struct #[⟨"Size_", 12, 0, false, "", "", 0⟩, ⟨"PtrBytes", 12, 1, false, "", "", 8⟩, ⟨"Hash", 296, 2, false, "", "", 16⟩, ⟨"TFlag", 378, 3, false, "", "", 20⟩, ⟨"Align_", 5, 4, false, "", "", 21⟩, ⟨"FieldAlign_", 5, 5, false, "", "", 22⟩, ⟨"Kind_", 206, 6, false, "", "", 23⟩, ⟨"Equal", 379, 7, false, "", "", 24⟩, ⟨"GCData", 154, 8, false, "", "", 32⟩, ⟨"Str", 380, 9, false, "", "", 40⟩, ⟨"PtrToThis", 381, 10, false, "", "", 44⟩], .agg #[.int .u64 0, .int .u64 0, .int .u32 0, .int .u8 0, .int .u8 0, .int .u8 0, .int .u8 0, .nilFunc, .pointer none, .int .i32 0, .int .i32 0], 11, 48⟩,
 ⟨383, .struct #[⟨"Size_", 12, 0, false, "", "", 0⟩, ⟨"PtrBytes", 12, 1, false, "", "", 8⟩, ⟨"Hash", 296, 2, false, "", "", 16⟩, ⟨"TFlag", 378, 3, false, "", "", 20⟩, ⟨"Align_", 5, 4, false, "", "", 21⟩, ⟨"FieldAlign_", 5, 5, false, "", "", 22⟩, ⟨"Kind_", 206, 6, false, "", "", 23⟩, ⟨"Equal", 379, 7, false, "", "", 24⟩, ⟨"GCData", 154, 8, false, "", "", 32⟩, ⟨"Str", 380, 9, false, "", "", 40⟩, ⟨"PtrToThis", 381, 10, false, "", "", 44⟩], .agg #[.int .u64 0, .int .u64 0, .int .u32 0, .int .u8 0, .int .u8 0, .int .u8 0, .int .u8 0, .nilFunc, .pointer none, .int .i32 0, .int .i32 0], 11, 48⟩,
 ⟨386, .struct #[⟨"Method", 9, 0, false, "", "", 0⟩, ⟨"Kind", 206, 1, false, "", "", 16⟩], .agg #[.string .empty, .int .u8 0], 2, 24⟩,
 ⟨387, .struct #[⟨"Method", 9, 0, false, "", "", 0⟩, ⟨"Kind", 206, 1, false, "", "", 16⟩], .agg #[.string .empty, .int .u8 0], 2, 24⟩,
 ⟨388, .pointer 392, .pointer none, 1, 8⟩,
 ⟨390, .int .u16, .int .u16 0, 1, 2⟩,
 ⟨393, .slice 396, .slice none 0 0, 1, 24⟩,
 ⟨394, .int .i32, .int .i32 0, 1, 4⟩,
 ⟨395, .struct #[⟨"Name", 380, 0, false, "", "", 0⟩, ⟨"Mtyp", 381, 1, false, "", "", 4⟩, ⟨"Ifn", 394, 2, false, "", "", 8⟩, ⟨"Tfn", 394, 3, false, "", "", 12⟩], .agg #[.int .i32 0, .int .i32 0, .int .i32 0, .int .i32 0], 4, 16⟩,
 ⟨396, .struct #[⟨"Name", 380, 0, false, "", "", 0⟩, ⟨"Mtyp", 381, 1, false, "", "", 4⟩, ⟨"Ifn", 394, 2, false, "", "", 8⟩, ⟨"Tfn", 394, 3, false, "", "", 12⟩], .agg #[.int .i32 0, .int .i32 0, .int .i32 0, .int .i32 0], 4, 16⟩,
 ⟨397, .pointer 88, .pointer none, 1, 8⟩]
theorem tyOk_of {P : Program} : ∀ l : List TyRow, (l.map fun r => (P.underlying r.t, (P.info? r.t).map fun i => (i.zero, i.size, i.bytes))) = l.map (fun r => (some r.d, some (some r.z, r.size, r.bytes))) → TyOk P l
  | [], _ => trivial
  | r :: rs, h => by
    injection h with h1 h2
    injection h1 with h3 h4
    exact ⟨⟨h3, h4⟩, tyOk_of rs h2⟩
instance tyTab : TyTab Tryz.prog := ⟨tyRows, tyOk_of tyRows (by kernel_rfl), by kernel_rfl⟩
end Go.AL
end
section
namespace Go.Proofs
open Go.Shelf
def Tryz.lays137_ren : Go.Shelf.Ren := ⟨fun | 137 => 173 | 217 => 220 | 266 => 248 | n => n, fun | 9 => 9 | 5 => 5 | 3 => 3 | n => n, fun | n => n⟩
theorem Tryz.lays137 : Go.Proofs.Lays.n137 Tryz.prog Tryz.lays137_ren := {
 mixed := by kernel_rfl
 f137 := Tryz.func173.trans (congrArg some (by kernel_rfl))
 f217 := Tryz.func220.trans (congrArg some (by kernel_rfl))
 f266 := Tryz.func248.trans (congrArg some (by kernel_rfl))
 t3 := Tryz.underlying3
 a3 := Tryz.isAgg3
 z3 := Tryz.sizeOf3
 v3 := Tryz.zeroValue3
 t5 := Tryz.underlying5
 a5 := Tryz.isAgg5
 z5 := Tryz.sizeOf5
 v5 := Tryz.zeroValue5
 t9 := Tryz.underlying9
 a9 := Tryz.isAgg9
 z9 := Tryz.sizeOf9
 v9 := Tryz.zeroValue9 }
open Go.RowKit in
theorem Tryz.strings_IndexByte (s : ByteArray) (c : Int) (w : World) :
  Calls Tryz.prog 173 #[.string s, .int .u8 c] w fun e w' => e = .returned (.int .i64 (Lib.indexByte s.data.toList c.toNat.toUInt8)) ∧ w' = w := Any.strings_IndexByte Tryz.lays137 s c w
def Tryz.lays104_ren : Go.Shelf.Ren := ⟨fun | 104 => 120 | 211 => 174 | 207 => 221 | n => n, fun | 9 => 9 | 4 => 4 | 24 => 193 | 3 => 3 | n => n, fun | n => n⟩
theorem Tryz.lays104 : Go.Proofs.Lays.n104 Tryz.prog Tryz.lays104_ren := {
 mixed := by kernel_rfl
 f104 := Tryz.func120.trans (congrArg some (by kernel_rfl))
 f207 := Tryz.func221.trans (congrArg some (by kernel_rfl))
 f211 := Tryz.func174.trans (congrArg some (by kernel_rfl))
 t3 := Tryz.underlying3
 a3 := Tryz.isAgg3
 z3 := Tryz.sizeOf3
 v3 := Tryz.zeroValue3
 t4 := Tryz.underlying4
 a4 := Tryz.isAgg4
 z4 := Tryz.sizeOf4
 v4 := Tryz.zeroValue4
 t9 := Tryz.underlying9
 a9 := Tryz.isAgg9
 z9 := Tryz.sizeOf9
 v9 := Tryz.zeroValue9
 t24 := Tryz.underlying193
 a24 := Tryz.isAgg193
 z24 := Tryz.sizeOf193
 v24 := Tryz.zeroValue193 }
open Go.RowKit in
theorem Tryz.strings_CutSuffix (s p : ByteArray) (w : World) (hs : s.size ≤ 9223372036854775807) :
  Calls Tryz.prog 120 #[.string s, .string p] w fun e w' => e = .returned (.tuple #[.string ⟨(Lib.trimSuffix s.data.toList p.data.toList).toArray⟩, .bool (Lib.hasSuffix s.data.toList p.data.toList)]) ∧ w' = w := Any.strings_CutSuffix Tryz.lays104 s p w hs
def Tryz.laysM171_ren : Go.Shelf.Ren := ⟨fun | 171 => 40 | 243 => 81 | 246 => 116 | 283 => 164 | 284 => 165 | 285 => 166 | 286 => 167 | 129 => 215 | 317 => 214 | 318 => 216 | 319 => 217 | 320 => 218 | 337 => 244 | 338 => 245 | n => n, fun | 3 => 3 | 9 => 9 | 2 => 2 | 4 => 4 | 171 => 244 | 0 => 0 | 53 => 245 | 37 => 84 | 5 => 5 | 173 => 248 | 212 => 295 | 51 => 296 | 20 => 20 | 213 => 297 | 46 => 298 | 232 => 339 | 233 => 340 | n => n, fun | 17 => 1 | 18 => 2 | 19 => 3 | n => n⟩
theorem Tryz.laysM171 : Go.Proofs.LaysM.n171 Tryz.prog Tryz.laysM171_ren := {
 mixed := by kernel_rfl
 f129 := Tryz.func215.trans (congrArg some (by kernel_rfl))
 f171 := Tryz.func40.trans (congrArg some (by kernel_rfl))
 f243 := Tryz.func81.trans (congrArg some (by kernel_rfl))
 f246 := Tryz.func116.trans (congrArg some (by kernel_rfl))
 f283 := Tryz.func164.trans (congrArg some (by kernel_rfl))
 f284 := Tryz.func165.trans (congrArg some (by kernel_rfl))
 f285 := Tryz.func166.trans (congrArg some (by kernel_rfl))
 f286 := Tryz.func167.trans (congrArg some (by kernel_rfl))
 f317 := Tryz.func214.trans (congrArg some (by kernel_rfl))
 f318 := Tryz.func216.trans (congrArg some (by kernel_rfl))
 f319 := Tryz.func217.trans (congrArg some (by kernel_rfl))
 f320 := Tryz.func218.trans (congrArg some (by kernel_rfl))
 f337 := Tryz.func244.trans (congrArg some (by kernel_rfl))
 f338 := Tryz.func245.trans (congrArg some (by kernel_rfl))
 t0 := Tryz.underlying0
 a0 := Tryz.isAgg0
 z0 := Tryz.sizeOf0
 v0 := Tryz.zeroValue0
 t2 := Tryz.underlying2
 a2 := Tryz.isAgg2
 z2 := Tryz.sizeOf2
 v2 := Tryz.zeroValue2
 t3 := Tryz.underlying3
 a3 := Tryz.isAgg3
 z3 := Tryz.sizeOf3
 v3 := Tryz.zeroValue3
 t4 := Tryz.underlying4
 a4 := Tryz.isAgg4
 z4 := Tryz.sizeOf4
 v4 := Tryz.zeroValue4
 t5 := Tryz.underlying5
 a5 := Tryz.isAgg5
 z5 := Tryz.sizeOf5
 v5 := Tryz.zeroValue5
 t9 := Tryz.underlying9
 a9 := Tryz.isAgg9
 z9 := Tryz.sizeOf9
 v9 := Tryz.zeroValue9
 t20 := Tryz.underlying20
 a20 := Tryz.isAgg20
 z20 := Tryz.sizeOf20
 v20 := Tryz.zeroValue20
 t37 := Tryz.underlying84
 a37 := Tryz.isAgg84
 z37 := Tryz.sizeOf84
 v37 := Tryz.zeroValue84
 t46 := Tryz.underlying298
 a46 := Tryz.isAgg298
 z46 := Tryz.sizeOf298
 v46 := Tryz.zeroValue298
 t51 := Tryz.underlying296
 a51 := Tryz.isAgg296
 z51 := Tryz.sizeOf296
 v51 := Tryz.zeroValue296
 t53 := Tryz.underlying245
 a53 := Tryz.isAgg245
 z53 := Tryz.sizeOf245
 v53 := Tryz.zeroValue245
 t171 := Tryz.underlying244
 a171 := Tryz.isAgg244
 z171 := Tryz.sizeOf244
 v171 := Tryz.zeroValue244
 t173 := Tryz.underlying248
 a173 := Tryz.isAgg248
 z173 := Tryz.sizeOf248
 v173 := Tryz.zeroValue248
 t212 := Tryz.underlying295
 a212 := Tryz.isAgg295
 z212 := Tryz.sizeOf295
 v212 := Tryz.zeroValue295
 t213 := Tryz.underlying297
 a213 := Tryz.isAgg297
 z213 := Tryz.sizeOf297
 t232 := Tryz.underlying339
 a232 := Tryz.isAgg339
 z232 := Tryz.sizeOf339
 v232 := Tryz.zeroValue339
 t233 := Tryz.underlying340
 a233 := Tryz.isAgg340
 z233 := Tryz.sizeOf340
 v233 := Tryz.zeroValue340
 g17 := by kernel_rfl
 g18 := by kernel_rfl
 g19 := by kernel_rfl
 i0 := by kernel_rfl
 i2 := by kernel_rfl
 i3 := by kernel_rfl
 i4 := by kernel_rfl
 i5 := by kernel_rfl
 i9 := by kernel_rfl
 i20 := by kernel_rfl
 i37 := by kernel_rfl
 i46 := by kernel_rfl
 i51 := by kernel_rfl
 i53 := by kernel_rfl
 i171 := by kernel_rfl
 i173 := by kernel_rfl
 i212 := by kernel_rfl
 i232 := by kernel_rfl
 i233 := by kernel_rfl
 m17 := by kernel_rfl
 m18 := by kernel_rfl
 m19 := by kernel_rfl }
open Go.RowKit Go.Sort Go.Lib in
theorem Tryz.strconv_Itoa (n : Int) (h0 : -9223372036854775808 ≤ n) (h1 : n ≤ 9223372036854775807) (w : World) (htab : Lib.TabIs Tryz.prog w "internal/strconv.uint64pow10" .u64 Lib.pow10Tab) :
  Calls Tryz.prog 40 #[.int .i64 n] w fun e w' => e = .returned (.string ⟨(Lib.itoa n).toArray⟩) ∧ ∃ k os, w' = grow (w.drewN k) os := Any.strconv_Itoa Tryz.laysM171 n h0 h1 w htab
def Tryz.laysC172_ren : Go.Shelf.Ren := ⟨fun | 172 => 219 | 244 => 246 | 245 => 247 | 247 => 276 | 279 => 277 | 280 => 278 | 281 => 279 | 282 => 280 | 287 => 292 | 316 => 293 | 171 => 40 | 205 => 294 | 321 => 300 | 322 => 301 | 243 => 81 | 246 => 116 | 283 => 164 | 284 => 165 | 285 => 166 | 286 => 167 | 129 => 215 | 317 => 214 | 318 => 216 | 319 => 217 | 320 => 218 | 337 => 244 | 338 => 245 | n => n, fun | 9 => 9 | 3 => 3 | 75 => 88 | 76 => 89 | 4 => 4 | 5 => 5 | 167 => 341 | 37 => 84 | 0 => 0 | 85 => 342 | 2 => 2 | 168 => 344 | 53 => 245 | 175 => 355 | 46 => 298 | 210 => 359 | 127 => 154 | 145 => 365 | 143 => 363 | 21 => 21 | 171 => 244 | 173 => 248 | 212 => 295 | 51 => 296 | 20 => 20 | 213 => 297 | 232 => 339 | 233 => 340 | 80 => 95 | n => n, fun | 15 => 5 | 16 => 6 | 17 => 1 | 18 => 2 | 19 => 3 | n => n⟩
theorem Tryz.laysC172 : Go.Proofs.LaysC.n172 Tryz.prog Tryz.laysC172_ren := {
 mixed := by kernel_rfl
 f129 := Tryz.func215.trans (congrArg some (by kernel_rfl))
 f171 := Tryz.func40.trans (congrArg some (by kernel_rfl))
 f172 := Tryz.func219.trans (congrArg some (by kernel_rfl))
 f205 := Tryz.func294.trans (congrArg some (by kernel_rfl))
 f243 := Tryz.func81.trans (congrArg some (by kernel_rfl))
 f244 := Tryz.func246.trans (congrArg some (by kernel_rfl))
 f245 := Tryz.func247.trans (congrArg some (by kernel_rfl))
 f246 := Tryz.func116.trans (congrArg some (by kernel_rfl))
 f247 := Tryz.func276.trans (congrArg some (by kernel_rfl))
 f279 := Tryz.func277.trans (congrArg some (by kernel_rfl))
 f280 := Tryz.func278.trans (congrArg some (by kernel_rfl))
 f281 := Tryz.func279.trans (congrArg some (by kernel_rfl))
 f282 := Tryz.func280.trans (congrArg some (by kernel_rfl))
 f283 := Tryz.func164.trans (congrArg some (by kernel_rfl))
 f284 := Tryz.func165.trans (congrArg some (by kernel_rfl))
 f285 := Tryz.func166.trans (congrArg some (by kernel_rfl))
 f286 := Tryz.func167.trans (congrArg some (by kernel_rfl))
 f287 := Tryz.func292.trans (congrArg some (by kernel_rfl))
 f316 := Tryz.func293.trans (congrArg some (by kernel_rfl))
 f317 := Tryz.func214.trans (congrArg some (by kernel_rfl))
 f318 := Tryz.func216.trans (congrArg some (by kernel_rfl))
 f319 := Tryz.func217.trans (congrArg some (by kernel_rfl))
 f320 := Tryz.func218.trans (congrArg some (by kernel_rfl))
 f321 := Tryz.func300.trans (congrArg some (by kernel_rfl))
 f322 := Tryz.func301.trans (congrArg some (by kernel_rfl))
 f337 := Tryz.func244.trans (congrArg some (by kernel_rfl))
 f338 := Tryz.func245.trans (congrArg some (by kernel_rfl))
 t0 := Tryz.underlying0
 a0 := Tryz.isAgg0
 z0 := Tryz.sizeOf0
 v0 := Tryz.zeroValue0
 t2 := Tryz.underlying2
 a2 := Tryz.isAgg2
 z2 := Tryz.sizeOf2
 v2 := Tryz.zeroValue2
 t3 := Tryz.underlying3
 a3 := Tryz.isAgg3
 z3 := Tryz.sizeOf3
 v3 := Tryz.zeroValue3
 t4 := Tryz.underlying4
 a4 := Tryz.isAgg4
 z4 := Tryz.sizeOf4
 v4 := Tryz.zeroValue4
 t5 := Tryz.underlying5
 a5 := Tryz.isAgg5
 z5 := Tryz.sizeOf5
 v5 := Tryz.zeroValue5
 t9 := Tryz.underlying9
 a9 := Tryz.isAgg9
 z9 := Tryz.sizeOf9
 v9 := Tryz.zeroValue9
 t20 := Tryz.underlying20
 a20 := Tryz.isAgg20
 z20 := Tryz.sizeOf20
 v20 := Tryz.zeroValue20
 t21 := Tryz.underlying21
 a21 := Tryz.isAgg21
 z21 := Tryz.sizeOf21
 v21 := Tryz.zeroValue21
 t37 := Tryz.underlying84
 a37 := Tryz.isAgg84
 z37 := Tryz.sizeOf84
 v37 := Tryz.zeroValue84
 t46 := Tryz.underlying298
 a46 := Tryz.isAgg298
 z46 := Tryz.sizeOf298
 v46 := Tryz.zeroValue298
 t51 := Tryz.underlying296
 a51 := Tryz.isAgg296
 z51 := Tryz.sizeOf296
 v51 := Tryz.zeroValue296
 t53 := Tryz.underlying245
 a53 := Tryz.isAgg245
 z53 := Tryz.sizeOf245
 v53 := Tryz.zeroValue245
 t75 := Tryz.underlying88
 a75 := Tryz.isAgg88
 z75 := Tryz.sizeOf88
 v75 := Tryz.zeroValue88
 t76 := Tryz.underlying89
 a76 := Tryz.isAgg89
 z76 := Tryz.sizeOf89
 v76 := Tryz.zeroValue89
 t85 := Tryz.underlying342
 a85 := Tryz.isAgg342
 z85 := Tryz.sizeOf342
 v85 := Tryz.zeroValue342
 t127 := Tryz.underlying154
 a127 := Tryz.isAgg154
 z127 := Tryz.sizeOf154
 v127 := Tryz.zeroValue154
 t143 := Tryz.underlying363
 a143 := Tryz.isAgg363
 z143 := Tryz.sizeOf363
 v143 := Tryz.zeroValue363
 t145 := Tryz.underlying365
 a145 := Tryz.isAgg365
 z145 := Tryz.sizeOf365
 v145 := Tryz.zeroValue365
 t167 := Tryz.underlying341
 a167 := Tryz.isAgg341
 z167 := Tryz.sizeOf341
 v167 := Tryz.zeroValue341
 t168 := Tryz.underlying344
 a168 := Tryz.isAgg344
 z168 := Tryz.sizeOf344
 v168 := Tryz.zeroValue344
 t171 := Tryz.underlying244
 a171 := Tryz.isAgg244
 z171 := Tryz.sizeOf244
 v171 := Tryz.zeroValue244
 t173 := Tryz.underlying248
 a173 := Tryz.isAgg248
 z173 := Tryz.sizeOf248
 v173 := Tryz.zeroValue248
 t175 := Tryz.underlying355
 a175 := Tryz.isAgg355
 z175 := Tryz.sizeOf355
 v175 := Tryz.zeroValue355
 t210 := Tryz.underlying359
 a210 := Tryz.isAgg359
 z210 := Tryz.sizeOf359
 v210 := Tryz.zeroValue359
 t212 := Tryz.underlying295
 a212 := Tryz.isAgg295
 z212 := Tryz.sizeOf295
 v212 := Tryz.zeroValue295
 t213 := Tryz.underlying297
 a213 := Tryz.isAgg297
 z213 := Tryz.sizeOf297
 t232 := Tryz.underlying339
 a232 := Tryz.isAgg339
 z232 := Tryz.sizeOf339
 v232 := Tryz.zeroValue339
 t233 := Tryz.underlying340
 a233 := Tryz.isAgg340
 z233 := Tryz.sizeOf340
 v233 := Tryz.zeroValue340
 g15 := by kernel_rfl
 g16 := by kernel_rfl
 g17 := by kernel_rfl
 g18 := by kernel_rfl
 g19 := by kernel_rfl
 t80 := Tryz.underlying95
 a80 := Tryz.isAgg95
 z80 := Tryz.sizeOf95
 v80 := Tryz.zeroValue95
 i0 := by kernel_rfl
 i2 := by kernel_rfl
 i3 := by kernel_rfl
 i4 := by kernel_rfl
 i5 := by kernel_rfl
 i9 := by kernel_rfl
 i20 := by kernel_rfl
 i21 := by kernel_rfl
 i37 := by kernel_rfl
 i46 := by kernel_rfl
 i51 := by kernel_rfl
 i53 := by kernel_rfl
 i75 := by kernel_rfl
 i76 := by kernel_rfl
 i80 := by kernel_rfl
 i85 := by kernel_rfl
 i127 := by kernel_rfl
 i143 := by kernel_rfl
 i145 := by kernel_rfl
 i167 := by kernel_rfl
 i168 := by kernel_rfl
 i171 := by kernel_rfl
 i173 := by kernel_rfl
 i175 := by kernel_rfl
 i210 := by kernel_rfl
 i212 := by kernel_rfl
 i232 := by kernel_rfl
 i233 := by kernel_rfl
 m15 := by kernel_rfl
 m16 := by kernel_rfl
 m17 := by kernel_rfl
 m18 := by kernel_rfl
 m19 := by kernel_rfl
 c0 := by kernel_rfl
 c2 := by kernel_rfl
 c3 := by kernel_rfl
 c4 := by kernel_rfl
 c5 := by kernel_rfl
 c9 := by kernel_rfl
 c20 := by kernel_rfl
 c21 := by kernel_rfl
 c37 := by kernel_rfl
 c46 := by kernel_rfl
 c51 := by kernel_rfl
 c53 := by kernel_rfl
 c75 := by kernel_rfl
 c76 := by kernel_rfl
 c80 := by kernel_rfl
 c85 := by kernel_rfl
 c127 := by kernel_rfl
 c143 := by kernel_rfl
 c145 := by kernel_rfl
 c167 := by kernel_rfl
 c168 := by kernel_rfl
 c171 := by kernel_rfl
 c173 := by kernel_rfl
 c175 := by kernel_rfl
 c210 := by kernel_rfl
 c212 := by kernel_rfl
 c213 := by kernel_rfl
 c232 := by kernel_rfl
 c233 := by kernel_rfl }
open Go.RowKit in
theorem Tryz.strconv_Atoi_ok (s : ByteArray) (hmax : s.size ≤ 9223372036854775806) (v : Int) (h : Lib.atoiAll s.data.toList = .ok v) (w : World) :
  Calls Tryz.prog 219 #[.string s] w fun e w' => e = .returned (.tuple #[.int .i64 v, .nilIface]) ∧ (w' = w ∨ ∃ t, w' = Lib.bytesWorld w 5 t) := Any.strconv_Atoi_ok Tryz.laysC172 s hmax v h w
open Go.RowKit in
theorem Tryz.strconv_Atoi_syntax (s : ByteArray) (hlim : s.size ≤ 281474976710656) (h : Lib.atoiAll s.data.toList = .«syntax») (ev : Value) (w : World) (hv : w.cell? ⟨5, 0, none⟩ = some ev) (hev : ev = .nilIface ∨ ∃ te pe, ev = .iface te pe) :
  Calls Tryz.prog 219 #[.string s] w fun e w' => ∃ N, e = .returned (.tuple #[.int .i64 (0), .iface 344 (.pointer (some ⟨N, 0, none⟩))]) ∧ w.heap.size ≤ N ∧ w'.heap[N]? = some (.cells #[.string ⟨#[65, 116, 111, 105]⟩, .string s, ev] 359 (0, 0)) ∧ Below w.heap.size w w' := Any.strconv_Atoi_syntax Tryz.laysC172 s hlim h ev w hv hev
open Go.RowKit in
theorem Tryz.strconv_Atoi_range (s : ByteArray) (hlim : s.size ≤ 281474976710656) (h : Lib.atoiAll s.data.toList = .range) (ev : Value) (w : World) (hv : w.cell? ⟨6, 0, none⟩ = some ev) (hev : ev = .nilIface ∨ ∃ te pe, ev = .iface te pe) :
  Calls Tryz.prog 219 #[.string s] w fun e w' => ∃ N, e = .returned (.tuple #[.int .i64 (Lib.atoiSat s.data.toList), .iface 344 (.pointer (some ⟨N, 0, none⟩))]) ∧ w.heap.size ≤ N ∧ w'.heap[N]? = some (.cells #[.string ⟨#[65, 116, 111, 105]⟩, .string s, ev] 359 (0, 0)) ∧ Below w.heap.size w w' := Any.strconv_Atoi_range Tryz.laysC172 s hlim h ev w hv hev
def Tryz.laysGw17_ren : Go.Shelf.Ren := ⟨fun | 17 => 175 | 15 => 222 | 20 => 249 | n => n, fun | 9 => 9 | 23 => 255 | 4 => 4 | 3 => 3 | 0 => 0 | 21 => 21 | n => n, fun | n => n⟩
theorem Tryz.laysGw17 : Go.Proofs.LaysGw.n17 Tryz.prog Tryz.laysGw17_ren := {
 mixed := by kernel_rfl
 f15 := Tryz.func222.trans (congrArg some (by kernel_rfl))
 f17 := Tryz.func175.trans (congrArg some (by kernel_rfl))
 f20 := Tryz.func249.trans (congrArg some (by kernel_rfl))
 t0 := Tryz.underlying0
 a0 := Tryz.isAgg0
 z0 := Tryz.sizeOf0
 v0 := Tryz.zeroValue0
 i0 := by kernel_rfl
 t3 := Tryz.underlying3
 a3 := Tryz.isAgg3
 z3 := Tryz.sizeOf3
 v3 := Tryz.zeroValue3
 i3 := by kernel_rfl
 t4 := Tryz.underlying4
 a4 := Tryz.isAgg4
 z4 := Tryz.sizeOf4
 v4 := Tryz.zeroValue4
 i4 := by kernel_rfl
 t9 := Tryz.underlying9
 a9 := Tryz.isAgg9
 z9 := Tryz.sizeOf9
 v9 := Tryz.zeroValue9
 i9 := by kernel_rfl
 t21 := Tryz.underlying21
 a21 := Tryz.isAgg21
 z21 := Tryz.sizeOf21
 v21 := Tryz.zeroValue21
 i21 := by kernel_rfl
 t23 := Tryz.underlying255
 a23 := Tryz.isAgg255
 z23 := Tryz.sizeOf255
 v23 := Tryz.zeroValue255
 i23 := by kernel_rfl }
def Tryz.lays146_ren : Go.Shelf.Ren := ⟨fun | 146 => 177 | 221 => 223 | 268 => 250 | 138 => 251 | 143 => 252 | 195 => 281 | 197 => 282 | 218 => 283 | 219 => 284 | 260 => 295 | 217 => 220 | 225 => 296 | 224 => 297 | 267 => 298 | 266 => 248 | 314 => 302 | n => n, fun | 9 => 9 | 31 => 96 | 3 => 3 | 4 => 4 | 0 => 0 | 105 => 348 | 21 => 21 | 5 => 5 | 46 => 298 | 119 => 366 | 139 => 369 | 138 => 368 | 146 => 370 | 51 => 296 | n => n, fun | 1 => 4 | 3 => 7 | 4 => 8 | n => n⟩
theorem Tryz.lays146 : Go.Proofs.Lays.n146 Tryz.prog Tryz.lays146_ren := {
 mixed := by kernel_rfl
 f138 := Tryz.func251.trans (congrArg some (by kernel_rfl))
 f143 := Tryz.func252.trans (congrArg some (by kernel_rfl))
 f146 := Tryz.func177.trans (congrArg some (by kernel_rfl))
 f195 := Tryz.func281.trans (congrArg some (by kernel_rfl))
 f197 := Tryz.func282.trans (congrArg some (by kernel_rfl))
 f217 := Tryz.func220.trans (congrArg some (by kernel_rfl))
 f218 := Tryz.func283.trans (congrArg some (by kernel_rfl))
 f219 := Tryz.func284.trans (congrArg some (by kernel_rfl))
 f221 := Tryz.func223.trans (congrArg some (by kernel_rfl))
 f224 := Tryz.func297.trans (congrArg some (by kernel_rfl))
 f225 := Tryz.func296.trans (congrArg some (by kernel_rfl))
 f260 := Tryz.func295.trans (congrArg some (by kernel_rfl))
 f266 := Tryz.func248.trans (congrArg some (by kernel_rfl))
 f267 := Tryz.func298.trans (congrArg some (by kernel_rfl))
 f268 := Tryz.func250.trans (congrArg some (by kernel_rfl))
 f314 := Tryz.func302.trans (congrArg some (by kernel_rfl))
 t0 := Tryz.underlying0
 a0 := Tryz.isAgg0
 z0 := Tryz.sizeOf0
 v0 := Tryz.zeroValue0
 t3 := Tryz.underlying3
 a3 := Tryz.isAgg3
 z3 := Tryz.sizeOf3
 v3 := Tryz.zeroValue3
 t4 := Tryz.underlying4
 a4 := Tryz.isAgg4
 z4 := Tryz.sizeOf4
 v4 := Tryz.zeroValue4
 t5 := Tryz.underlying5
 a5 := Tryz.isAgg5
 z5 := Tryz.sizeOf5
 v5 := Tryz.zeroValue5
 t9 := Tryz.underlying9
 a9 := Tryz.isAgg9
 z9 := Tryz.sizeOf9
 v9 := Tryz.zeroValue9
 t21 := Tryz.underlying21
 a21 := Tryz.isAgg21
 z21 := Tryz.sizeOf21
 v21 := Tryz.zeroValue21
 t31 := Tryz.underlying96
 a31 := Tryz.isAgg96
 z31 := Tryz.sizeOf96
 v31 := Tryz.zeroValue96
 t46 := Tryz.underlying298
 a46 := Tryz.isAgg298
 z46 := Tryz.sizeOf298
 v46 := Tryz.zeroValue298
 t51 := Tryz.underlying296
 a51 := Tryz.isAgg296
 z51 := Tryz.sizeOf296
 v51 := Tryz.zeroValue296
 t105 := Tryz.underlying348
 a105 := Tryz.isAgg348
 z105 := Tryz.sizeOf348
 v105 := Tryz.zeroValue348
 t119 := Tryz.underlying366
 a119 := Tryz.isAgg366
 z119 := Tryz.sizeOf366
 t138 := Tryz.underlying368
 a138 := Tryz.isAgg368
 z138 := Tryz.sizeOf368
 v138 := Tryz.zeroValue368
 t139 := Tryz.underlying369
 a139 := Tryz.isAgg369
 z139 := Tryz.sizeOf369
 v139 := Tryz.zeroValue369
 t146 := Tryz.underlying370
 a146 := Tryz.isAgg370
 z146 := Tryz.sizeOf370
 v146 := Tryz.zeroValue370
 g1 := by kernel_rfl
 g3 := by kernel_rfl
 g4 := by kernel_rfl }
open Go.RowKit Go.Lib in
theorem Tryz.strings_Split (s sep : ByteArray) (m : Int) (w : World) (hs : s.size < 4294967281) (hm : w.cell? ⟨4, 0, none⟩ = some (.int .i64 m)) (h1 : 1 ≤ sep.size) :
  Calls Tryz.prog 177 #[.string s, .string sep] w fun e w' =>
   e = .returned (.slice (some ⟨w.heap.size, 0, none⟩) (Lib.countB s sep + 1) (Lib.countB s sep + 1)) ∧ w' = w.alloc (.cells ((Lib.splitB sep 0 (Lib.countB s sep) s).map Value.string).toArray 9) := Any.strings_Split Tryz.lays146 (by kernel_rfl) s sep m w hs hm h1
open Go.RowKit Go.Lib in
theorem Tryz.strings_ContainsFunc_grows (g : Nat) (lb : Array Value) (eg : ∀ args w, (callFunc g args).run Tryz.prog w = .ok (.enter g args) w) (p : Nat → Bool) (s : ByteArray) (w : World) (hp : PredGrows Tryz.prog g lb p w) :
  Calls Tryz.prog 175 #[.string s, .func (.func g) #[] lb] w fun e w' => e = .returned (.bool (decide (0 ≤ Lib.idxFunc p true s))) ∧ Below w.heap.size w w' := Any.strings_ContainsFunc_grows Tryz.laysGw17 g lb eg p s w hp
end Go.Proofs
end
section
namespace Go.Proofs
open Go.Shelf
end Go.Proofs
end
section
namespace Go.Proofs
open Go.Shelf
def Tryz.lays156_ren : Go.Shelf.Ren := ⟨fun | 156 => 153 | 165 => 200 | 166 => 39 | 169 => 45 | 240 => 80 | 241 => 233 | 276 => 115 | 277 => 273 | n => n, fun | 31 => 96 | 9 => 9 | 3 => 3 | 4 => 4 | 0 => 0 | 20 => 20 | 72 => 86 | 76 => 89 | 70 => 83 | 37 => 84 | 75 => 88 | 127 => 154 | 164 => 183 | 5 => 5 | 80 => 95 | n => n, fun | n => n⟩
theorem Tryz.lays156 : Go.Proofs.Lays.n156 Tryz.prog Tryz.lays156_ren := {
 mixed := by kernel_rfl
 f156 := Tryz.func153.trans (congrArg some (by kernel_rfl))
 f165 := Tryz.func200.trans (congrArg some (by kernel_rfl))
 f166 := Tryz.func39.trans (congrArg some (by kernel_rfl))
 f169 := Tryz.func45.trans (congrArg some (by kernel_rfl))
 f240 := Tryz.func80.trans (congrArg some (by kernel_rfl))
 f241 := Tryz.func233.trans (congrArg some (by kernel_rfl))
 f276 := Tryz.func115.trans (congrArg some (by kernel_rfl))
 f277 := Tryz.func273.trans (congrArg some (by kernel_rfl))
 t0 := Tryz.underlying0
 a0 := Tryz.isAgg0
 z0 := Tryz.sizeOf0
 v0 := Tryz.zeroValue0
 t3 := Tryz.underlying3
 a3 := Tryz.isAgg3
 z3 := Tryz.sizeOf3
 v3 := Tryz.zeroValue3
 t4 := Tryz.underlying4
 a4 := Tryz.isAgg4
 z4 := Tryz.sizeOf4
 v4 := Tryz.zeroValue4
 t9 := Tryz.underlying9
 a9 := Tryz.isAgg9
 z9 := Tryz.sizeOf9
 v9 := Tryz.zeroValue9
 t20 := Tryz.underlying20
 a20 := Tryz.isAgg20
 z20 := Tryz.sizeOf20
 v20 := Tryz.zeroValue20
 t31 := Tryz.underlying96
 a31 := Tryz.isAgg96
 z31 := Tryz.sizeOf96
 v31 := Tryz.zeroValue96
 t37 := Tryz.underlying84
 a37 := Tryz.isAgg84
 z37 := Tryz.sizeOf84
 v37 := Tryz.zeroValue84
 t70 := Tryz.underlying83
 a70 := Tryz.isAgg83
 z70 := Tryz.sizeOf83
 v70 := Tryz.zeroValue83
 t72 := Tryz.underlying86
 a72 := Tryz.isAgg86
 z72 := Tryz.sizeOf86
 v72 := Tryz.zeroValue86
 t75 := Tryz.underlying88
 a75 := Tryz.isAgg88
 z75 := Tryz.sizeOf88
 v75 := Tryz.zeroValue88
 t76 := Tryz.underlying89
 a76 := Tryz.isAgg89
 z76 := Tryz.sizeOf89
 v76 := Tryz.zeroValue89
 t127 := Tryz.underlying154
 a127 := Tryz.isAgg154
 z127 := Tryz.sizeOf154
 v127 := Tryz.zeroValue154
 t164 := Tryz.underlying183
 a164 := Tryz.isAgg183
 z164 := Tryz.sizeOf183
 v164 := Tryz.zeroValue183 }
theorem Tryz.Builder_Extra_156 : Builder.Extra Tryz.prog Tryz.lays156_ren := {
 sizeBuilder := by kernel_rfl
 liesBuilder := by kernel_rfl
 t5 := Tryz.underlying5
 a5 := Tryz.isAgg5
 z5 := Tryz.sizeOf5
 v5 := Tryz.zeroValue5
 infoByte := by kernel_rfl
 cellsByte := by kernel_rfl
 sizeByte := by kernel_rfl
 neB5 := by decide }
open Go.RowKit in
theorem Tryz.strings_Join (bk o c : Nat) (xs : List ByteArray) (sep : ByteArray) (w : World) (hcells : ∀ (j : Nat) x, xs[j]? = some x → w.cell? ⟨bk, o + j, none⟩ = some (.string x)) (hbk : bk < w.heap.size) (hN : xs.length ≤ 140737488355328) (hcap : xs.length ≤ c) (hlen : (Lib.join (xs.map (·.data.toList)) sep.data.toList).length ≤ 140737488355328) :
  Calls Tryz.prog 153 #[.slice (some ⟨bk, o, none⟩) xs.length c, .string sep] w fun e w' => e = .returned (.string ⟨(Lib.join (xs.map (·.data.toList)) sep.data.toList).toArray⟩) ∧ Below w.heap.size w w' := Any.strings_Join Tryz.lays156 Tryz.Builder_Extra_156 bk o c xs sep w hcells hbk hN hcap hlen
end Go.Proofs
end
section
set_option maxRecDepth 100000
namespace Go.AL
open Go Go.Proofs
attribute [local irreducible] J
abbrev Bs := List UInt8
def S (l : Bs) : Value := .string ⟨l.toArray⟩
def sv (l : Bs) : AVal := .v (S l)
def iv (n : Int) : AVal := .v (.int .i64 n)
def bv (b : Bool) : AVal := .v (.bool b)
theorem indexByte_ok (l : Bs) (c : UInt8) : ACalls Tryz.prog 173 [sv l, .v (.int .u8 c.toNat)] [] (one (iv (Lib.indexByte l c)) []) :=
 lib_one (xs := [S l, .int .u8 c.toNat]) (u := .int .i64 (Lib.indexByte l c)) ⟨_, Tryz.func173, by kernel_rfl, by kernel_rfl⟩ (fun _ => rfl) fun w => (Tryz.strings_IndexByte ⟨l.toArray⟩ c.toNat w).mono fun e w' ⟨h1, h2⟩ => by
  subst h2
  refine ⟨?_, RowKit.Below.refl _ _⟩
  rw [h1]
  simp
theorem cutSuffix_ok (l p : Bs) (hl : l.length ≤ 9223372036854775807) : ACalls Tryz.prog 120 [sv l, sv p] [] (one (.tup [sv (Lib.trimSuffix l p), bv (Lib.hasSuffix l p)]) []) :=
 lib_one (xs := [S l, S p]) (u := .tuple #[S (Lib.trimSuffix l p), .bool (Lib.hasSuffix l p)]) ⟨_, Tryz.func120, by kernel_rfl, by kernel_rfl⟩ (fun _ => ⟨_, rfl, _, _, rfl, rfl, _, _, rfl, rfl, rfl⟩) fun w => (Tryz.strings_CutSuffix ⟨l.toArray⟩ ⟨p.toArray⟩ w (by simpa [ByteArray.size] using hl)).mono fun e w' ⟨h1, h2⟩ => by
  subst h2
  exact ⟨h1, RowKit.Below.refl _ _⟩
def inn (n a b : Int) : Bool := decide (n ≥ a) && decide (n ≤ b)
theorem in_ok (n a b : Int) : ACalls Tryz.prog 131 [iv n, iv a, iv b] [] (one (bv (inn n a b)) []) := by
 refine jcalls Tryz.func131 rfl (by kernel_rfl) Tryz.ntmps131 rfl rfl (fun w0 β0 ext hβ => ?_)
 unfold iv
 repeat (first | refine jS ?_ | refine jD ?_ | refine jB ?_)
 refine jg rfl rfl rfl rfl (fun h => ?_) (fun h => ?_)
 ·repeat (first | refine jS ?_ | refine jD ?_ | refine jB ?_)
  refine jr rfl rfl ?_ rfl
  unfold bv
  rw [inn, h]; rfl
 ·repeat (first | refine jS ?_ | refine jD ?_ | refine jB ?_)
  refine jr rfl rfl ?_ rfl
  unfold bv
  rw [inn, h]; rfl
def notN (r : Nat) : Bool := !inn r 97 122 && !inn r 48 57
theorem notN_ok (r : Nat) (hr : r ≤ 1114111) : ACalls Tryz.prog 176 [.v (.int .i32 r)] [] (one (bv (notN r)) []) := by
 have e : (IntKind.i64.wrap (r : Int)) = r := wrap_id (by omega) (by omega)
 have h1 : ACalls Tryz.prog 131 [.v (.int .i64 (IntKind.i64.wrap (r : Int))), .v (.int .i64 97), .v (.int .i64 122)] [] (one (.v (.bool (inn r 97 122))) []) := by rw [e]; exact in_ok r 97 122
 have h2 : ACalls Tryz.prog 131 [.v (.int .i64 (IntKind.i64.wrap (r : Int))), .v (.int .i64 48), .v (.int .i64 57)] [] (one (.v (.bool (inn r 48 57))) []) := by rw [e]; exact in_ok r 48 57
 unfold notN bv
 generalize inn r 97 122 = b1 at *
 generalize inn r 48 57 = b2 at *
 cases b1 <;> cases b2
 all_goals refine jcalls Tryz.func176 rfl (by kernel_rfl) Tryz.ntmps176 rfl rfl (fun w0 β0 ext hβ => ?_)
 all_goals (
  repeat (first | refine jS ?_ | refine jD ?_ | refine jB ?_ | refine jV h1 ?_ | refine jV h2 ?_)
 )
 all_goals exact jR
theorem contains_ok (l : Bs) : ACalls Tryz.prog 175 [sv l, .fn (.func 176) [] []] [] (one (bv (decide (0 ≤ Lib.idxFunc notN true ⟨l.toArray⟩))) []) := by
 refine ⟨⟨_, Tryz.func175, by kernel_rfl, by kernel_rfl⟩, fun ext w β us hI hx hr => ?_⟩
 obtain ⟨u1, us1, rfl, h1, u2, us2, rfl, ⟨a1, a2, rfl, g1, g2⟩, h3⟩ := hr
 have h3 : us2 = [] := h3
 have e1 : a1 = #[] := Array.toList_eq_nil_iff.1 g1
 have e2 : a2 = #[] := Array.toList_eq_nil_iff.1 g2
 have h1 : u1 = S l := h1
 subst h3; subst e1; subst e2; subst h1
 refine (Tryz.strings_ContainsFunc_grows 176 #[] (fun args w => callFunc_run ⟨_, Tryz.func176, by kernel_rfl, by kernel_rfl⟩ args w) notN ⟨l.toArray⟩ w ?_).mono fun e w' ⟨h1, h2⟩ => ?_
 ·intro W x hx hb
  exact lib_back (xs := [.int .i32 x]) (x := .bool (notN x)) (notN_ok x hx) W
 ·subst h1
  exact ⟨_, _, β, ⟨rfl, rfl⟩, rfl, below_inv hI h2, below_step h2 β fun b hb => (hI.sep b hb).2⟩
end Go.AL
end
