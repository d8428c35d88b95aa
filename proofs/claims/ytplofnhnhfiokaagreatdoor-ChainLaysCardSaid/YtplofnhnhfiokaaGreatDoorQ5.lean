/-
  Part 5 of the proof texts: the program logic over the model, then the contracts of the functions that the laws reach. No conditions.
-/
import Derived.Test.YtplofnhnhfiokaaGreatDoorQ4
import Derived.RecoverIn
import Derived.ChangeKeysEq
import Derived.KernelRfl
import Derived.Test.YtplofnhnhfiokaaGreatDoorProg
import Derived.Shelf.Small.Strs
import Derived.Shelf.Small.Wraps
import Derived.Shelf.Strconv.Itoa3
import Derived.Shelf.Strconv.AtoiAll
import Derived.Shelf.Strings.Search3
import Derived.Shelf.Strings.Count
import Derived.Shelf.Strings.Split
import Derived.Shelf.Strings.FuncGrows
import Derived.Shelf.LaysM
import Derived.Shelf.LaysC
import Derived.Shelf.Strings.Builder1
import Derived.Shelf.Strings.OnBuilder
import Derived.Lib.SmallJoins
set_option linter.unusedVariables false
set_option linter.unusedSimpArgs false
section
namespace Go.AL
open Go
section
variable {P : Program}
theorem opIn_mono {Fn : Fence} {n : Nat} {o : Oper} {a : Act} {w : World} {K : Act → World → Prop} {Q Q' : Exit → Act → World → Prop} (h : o.wpIn Fn n P a w K Q) (hq : ∀ e a w, Q e a w → Q' e a w) : o.wpIn Fn n P a w K Q' := by
 refine ⟨h.1, ?_⟩
 have h2 := h.2
 generalize (o.semAt Fn.round a.eval).run P w = r at h2
 cases r with
 | ok x w' =>
  cases x <;> simp only [Oper.uponIn] at h2 ⊢ <;> try exact h2
  ·refine ⟨h2.1, CallsIn.mono h2.2 fun e w'' he => ?_⟩
   cases e with
   | returned v => exact he
   | panicked ch => exact hq _ _ _ he
   | outgrown => exact let ⟨a, w, h⟩ := he; ⟨a, w, hq _ _ _ h⟩
  ·refine ⟨h2.1, RoundIn.mono h2.2 fun e w'' he => ?_⟩
   cases e with
   | returned v => exact he
   | panicked ch => exact hq _ _ _ he
   | outgrown => exact let ⟨a, w, h⟩ := he; ⟨a, w, hq _ _ _ h⟩
 | halt x w' =>
  cases x <;> simp only [Oper.uponIn] at h2 ⊢ <;> first | exact hq _ _ _ h2 | exact h2
def ModeIs (c : Ctx) : Option AVal → FrameMode → Prop
 | none, u => u = .returning
 | some v, u => ∃ x, u = .panicking [{ v := x, recovered := false }] ∧ Rel c v x
def rvOf : Option AVal → AVal
 | none => .v .nilIface
 | some v => v
structure ADCalls (P : Program) (g : FuncId) (args : List AVal) (H : List AObj) (m : Option AVal) (H' : List AObj) : Prop where
 enters : Enters P g
 calls : ∀ (ext : Nat → Prop) (w : World) (β : List Ent) (us : List Value) (u : FrameMode), Inv ext w H β → (∀ b, ext b → b < w.heap.size) → RelL (ctx ext w β) args us → ModeIs (ctx ext w β) m u →
  CallsDIn Fence.wide 0 P g us.toArray u w fun e u' w' => (∃ v, e = .returned v) ∧ settle u' = .returning ∧ ∃ β', Inv ext w' H' β' ∧ Step w β w' β'
theorem start_st {G : Gh} {ext : Nat → Prop} {w : World} {β : List Ent} {H : List AObj} {args : List AVal} {us : List Value} {N k : Nat} (hG : G = ⟨w, β, ext, N, [], none, true⟩) (hk : k = N) (hl : args.length ≤ N) (hI : Inv ext w H β) (hx : ∀ b, ext b → b < w.heap.size) (hr : RelL (ctx ext w β) args us) :
  StB G β (params 0 args) H { tmps := us.toArray ++ Array.replicate (k - us.toArray.size) undef, defers := [] } w := by
 subst hG; subst hk
 have hlen := hr.length
 refine ⟨hI, Step.refl w β, hx, ?_, ⟨[], List.nodup_nil, rfl, fun r hr => by simp at hr, fun _ => rfl⟩, fun t v ht => ?_⟩
 ·show (us.toArray ++ Array.replicate (k - us.toArray.size) undef).size = k
  simp; omega
 ·obtain ⟨_, h1⟩ := params_get ht
  rw [Nat.sub_zero] at h1
  obtain ⟨u, h2, h3⟩ := hr.get h1
  have hlt : t < us.length := (List.getElem?_eq_some_iff.1 h2).1
  refine ⟨u, ?_, h3⟩
  show (us.toArray ++ Array.replicate (k - us.toArray.size) undef)[t]? = some u
  rw [Array.getElem?_append_left (by simpa using hlt)]
  simpa using h2
theorem adcalls_intro [T : TyTab P] {g : FuncId} {fn : Func} {X : Code} {args : List AVal} {H H' : List AObj} {m : Option AVal} {N i0 t t2 : Nat} {ty ty2 : TypeId} {p1 p2 : String} {af1 af2 : Array Edge}
  (hf : P.funcs[g]? = some fn)
  (hb : fn.body = some ((Code.region i0 #[⟨some t, .call { callee := .builtin .recover, args := #[], argTypes := #[] }, ty, p1, af1, none⟩, ⟨some t2, .assign (.tmp t), ty2, p2, af2, none⟩] false).seq X))
  (hname : (fn.name == "runtime.NumGoroutine") = false) (hN : fn.ntmps = N) (hl : Nat.ble args.length N = true) (hrs : fn.results.toList = []) (ht : Nat.blt t N = true) (ht2 : Nat.blt t2 N = true)
  (h : ∀ w0 β0 ext, β0.length = H.length → J P ⟨w0, β0, ext, N, [], none, true⟩ (BodyQ T.tab [] H.length (one (.tup []) H')) (.c X .nil) ((t2, rvOf m) :: (t, rvOf m) :: params 0 args) H) : ADCalls P g args H m H' := by
 refine ⟨⟨fn, hf, hname, by rw [hb]; rfl⟩, fun ext w β us u hI hx hr hm => ?_⟩
 have hl' := Nat.le_of_ble_eq_true hl
 have ht' := Nat.le_of_ble_eq_true ht
 have ht2' := Nat.le_of_ble_eq_true ht2
 have hst := start_st (G := ⟨w, β, ext, N, [], none, true⟩) rfl hN hl' hI hx hr
 generalize hG : (⟨w, β, ext, N, [], none, true⟩ : Gh) = G at hst
 refine callsDIn_of_wpSIn hf hb trivial fun c₀ cs hu => wpSIn_seq (wpSIn_region ?_)
 -- what recover gives
 have hrec : ∃ x u', Rel (ctx ext w β) (rvOf m) x ∧ settle u' = .returning ∧
   ((recoverD (c₀ :: cs) = none ∧ x = .nilIface ∧ c₀ = { c₀ with mode := u' }) ∨ recoverD (c₀ :: cs) = some (x, { c₀ with mode := u' } :: cs)) := by
  cases m with
  | none =>
   have hm : u = .returning := hm
   refine ⟨.nilIface, .returning, rfl, rfl, .inl ⟨?_, rfl, ?_⟩⟩
   ·simp [recoverD, hu, hm]
   ·rw [← hm, ← hu]
  | some v =>
   obtain ⟨x, hm, hv⟩ := hm
   refine ⟨x, .panicking [{ v := x, recovered := true }], hv, rfl, .inr ?_⟩
   simp [recoverD, hu, hm]
 obtain ⟨x, u', hx1, hset, hrec⟩ := hrec
 have key : ∀ cs1, cs1 = ({ c₀ with mode := u' } : Frame) :: cs → ∀ a2 w2, w2 = w → StB G β ((t2, rvOf m) :: (t, rvOf m) :: params 0 args) H a2 w2 →
   X.wpSIn Fence.wide 0 P (bodyPostS P fn c₀ cs fun e u' w' => (∃ v, e = .returned v) ∧ settle u' = .returning ∧ ∃ β', Inv ext w' H' β' ∧ Step w β w' β') a2 cs1 w2 := by
  rintro _ rfl a2 w2 rfl hs
  have hJ := h w2 β ext hI.len
  rw [hG] at hJ
  have hrd : fz G.rd = Fence.wide := by rw [← hG]; rfl
  have hw := hJ a2 w2 ⟨β, hs⟩
  rw [hrd] at hw
  refine wpSIn_of_wpIn rfl (wpIn_mono hw fun e a' w' he => ?_)
  have fin : ∀ a' w', (∃ F' H1, (∃ r r' Ho ks wk, resA T.tab [] F' H1 = some r ∧ keepOk H.length ks = true ∧ finish H.length ks wk H1 r = some (r', Ho) ∧ one (.tup []) H' (.ret r') Ho) ∧ St G F' H1 a' w') →
    a'.defers = [] ∧ ∃ u1, ({ c₀ with mode := u' } : Frame) :: cs = { c₀ with mode := u1 } :: cs ∧ ∃ v, (results fn a'.tmps).run P w' = .ok v w' ∧ ((∃ x, Ending.returned v = .returned x) ∧ settle u1 = .returning ∧ ∃ β', Inv ext w' H' β' ∧ Step w2 β w' β') := by
   rintro a' w' ⟨F', H1, ⟨r, r', Ho, ks, wk, h1, h2, h3, h4⟩, β', hs'⟩
   have hr0 : r' = .tup [] ∧ Ho = H' := by
    obtain ⟨q1, q2⟩ := h4
    injection q1 with q1
    exact ⟨q1, q2⟩
   obtain ⟨ms, m1, m2, m3, m4⟩ := hs'.defers
   have hms : ms = [] := m4 (by rw [← hG])
   subst hms
   obtain ⟨v, h5, h6⟩ := res_run (fn := fn) hs' (by rw [hrs]; exact h1)
   have hst2 : Step w2 β w' β' := by have := hs'.step; rw [← hG] at this; exact this
   have hI2 : Inv ext w' H1 β' := by have := hs'.inv; rw [← hG] at this; exact this
   have h6 : Rel (ctx ext w' β') r v := by rw [← hG] at h6; exact h6
   obtain ⟨β'', g1, g2, g3, _⟩ := finish_came1 hI2 hst2 (by rw [hI.len]; exact Nat.le_refl _) (by have := hst2.lens; rw [← hI.len]; exact this) h6 h2 h3
   refine ⟨by rw [m2, ← hG]; rfl, u', rfl, v, h5, ⟨_, rfl⟩, hset, β'', ?_, g3⟩
   rw [← hr0.2]; exact g2
  cases e with
  | normal => exact fin a' w' he
  | ret => exact fin a' w' he
  | exit id => obtain ⟨F', H', h1, _⟩ := he; exact h1.elim
  | goto l => exact he.elim
  | outgrown => exact he.elim
  | panic ch =>
   obtain ⟨v, F', H1, β', u, ⟨r', Ho, ks, wk, h2, h3, h4⟩, _⟩ := he
   cases h4.1
 have hget : ∀ (a : Act) (v : Value) (n : Nat), n < a.tmps.size → (a.put (some n) v).eval (.tmp n) = v := fun a v n hn => by
  simp [Act.eval, Act.put, Array.getElem?_setIfInBounds, hn]
 have hsz : t < ({ tmps := us.toArray ++ Array.replicate (fn.ntmps - us.toArray.size) undef, defers := [] } : Act).tmps.size := by rw [hst.size, ← hG]; exact ht'
 have hfin : ∀ (a : Act), StB G β (params 0 args) H a w → ({ tmps := us.toArray ++ Array.replicate (fn.ntmps - us.toArray.size) undef, defers := [] } : Act) = a →
   StB G β ((t2, rvOf m) :: (t, rvOf m) :: params 0 args) H ((a.put (some t) x).put (some t2) x) w := fun a hs _ => by
  have hxx : Rel (ctx G.ext w β) (rvOf m) x := by rw [← hG]; exact hx1
  exact (hs.put (d := some t) hxx (fun s e => by injection e with e; subst e; rw [← hG]; exact ht')).put (d := some t2) hxx (fun s e => by injection e with e; subst e; rw [← hG]; exact ht2')
 have hfin := hfin _ hst rfl
 generalize ({ tmps := us.toArray ++ Array.replicate (fn.ntmps - us.toArray.size) undef, defers := [] } : Act) = a0 at *
 show wpOpsSIn Fence.wide 0 P _ _ [0, 1] a0 (c₀ :: cs) w
 rcases hrec with ⟨hrec, rfl, hc⟩ | hrec
 ·simp only [wpOpsSIn, List.getElem?_toArray, List.getElem?_cons_zero, List.getElem?_cons_succ, Region.wanted]
  refine ⟨fun _ _ => trivial, ?_⟩
  simp only [if_true]
  have e1 : (execOp a0.eval ⟨some t, .call { callee := .builtin .recover, args := #[], argTypes := #[] }, ty, p1, af1, none⟩).run P w = .ok .recover w := rfl
  rw [e1]
  simp only [hrec]
  refine ⟨fun _ _ => trivial, ?_⟩
  have e2 : (execOp (a0.put (some t) .nilIface).eval ⟨some t2, .assign (.tmp t), ty2, p2, af2, none⟩).run P w = .ok (.value .nilIface) w := by
   show Result.ok (Next.value ((a0.put (some t) .nilIface).eval (.tmp t))) w = _
   rw [hget _ _ _ hsz]
  rw [e2]
  exact key _ (by rw [← hc]) _ w rfl hfin
 ·simp only [wpOpsSIn, List.getElem?_toArray, List.getElem?_cons_zero, List.getElem?_cons_succ, Region.wanted]
  refine ⟨fun _ _ => trivial, ?_⟩
  simp only [if_true]
  have e1 : (execOp a0.eval ⟨some t, .call { callee := .builtin .recover, args := #[], argTypes := #[] }, ty, p1, af1, none⟩).run P w = .ok .recover w := rfl
  rw [e1]
  simp only [hrec]
  refine ⟨fun _ _ => trivial, ?_⟩
  have e2 : (execOp (a0.put (some t) x).eval ⟨some t2, .assign (.tmp t), ty2, p2, af2, none⟩).run P w = .ok (.value x) w := by
   show Result.ok (Next.value ((a0.put (some t) x).eval (.tmp t))) w = _
   rw [hget _ _ _ hsz]
  rw [e2]
  exact key _ rfl _ w rfl hfin
theorem panic_sem [T : TyTab P] {dst : Option Tmp} {x : Operand} {type : TypeId} {pos : String} {after : Array Edge} {guard : Option (Nat × Bool)} {F : Fr} {H : List AObj} {t : TypeId} {v : AVal} (hx : ev F x = some (.ifc t v)) :
  OpSem P ⟨dst, .panic x, type, pos, after, guard⟩ F H (fun r H' => r = .pan (.ifc t v) ∧ H' = H) := by
 intro ext w β ρ hI hext hκ hρ
 have hr := hρ x (by simp [Op.operands]) _ hx
 obtain ⟨y, hy, hv⟩ := hr
 have h4 : (execOp ρ ⟨dst, .panic x, type, pos, after, guard⟩).run P w = .halt (.panic (.iface t y)) w := by
  simp only [execOp, hy, Instr.panic]
  rfl
 rw [h4]
 exact ⟨_, H, β, ⟨rfl, rfl⟩, ⟨y, rfl, hv⟩, hI, Step.refl w β⟩
theorem post_pan {G : Gh} {Q : APost} {F : Fr} {H : List AObj} {v : AVal} : ∀ {k : Kt}, Q (.panic v) F H → post P G Q k (.panic v) F H
 | .nil, h => h
 | .seq y k, h => post_pan (k := k) h
 | .blk id k, h => post_pan (k := k) h
 | .lp R k, h => post_pan (k := k) h
theorem jpanS {G : Gh} {Q : APost} {F : Fr} {H H1 : List AObj} {s s' : Pt} {ops : Array Oper} {o : Oper} {v : AVal} (h : nextO s = some (ops, o, none, s')) (hg : guardA ops F o = some true)
  (hd : dstOk G.n o.dst = true) (ho : OpSem P o F H (fun r H' => r = .pan v ∧ H' = H1)) (next : Q (.panic v) F H1) : J P G Q s F H := by
 cases s with
 | c => cases h
 | e => cases h
 | l os l k =>
  simp only [nextO] at h
  split at h
  ·cases h
  ·injection h with h; injection h with h2 h3; injection h3 with h3 h4; injection h4 with h4 h5; subst h2; subst h3; subst h5
   exact ⟨dstOk_ok hd, .inl ⟨hg, _, ho, fun r H' ⟨h1, h2⟩ => by subst h1; subst h2; exact post_pan next⟩⟩
 | d os l k =>
  simp only [nextO] at h
  split at h
  ·cases h
  ·injection h with h; injection h with h2 h3; injection h3 with h3 h4; injection h4 with h4 h5; cases h4
theorem jpan [T : TyTab P] {G : Gh} {Q : APost} {F : Fr} {H : List AObj} {s s' : Pt} {ops : Array Oper} {dst : Option Tmp} {x : Operand} {type : TypeId} {pos : String} {after : Array Edge} {guard : Option (Nat × Bool)} {t : TypeId} {v : AVal} (h : nextO s = some (ops, ⟨dst, .panic x, type, pos, after, guard⟩, none, s'))
  (hx : ev F x = some (.ifc t v)) (hg : guardA ops F ⟨dst, .panic x, type, pos, after, guard⟩ = some true) (hd : dstOk G.n dst = true) (next : Q (.panic (.ifc t v)) F H) : J P G Q s F H :=
 jpanS h hg hd (panic_sem hx) next
def onep (v : AVal) (H' : List AObj) : Eff := fun r H => r = .pan v ∧ H = H'
theorem jbp {G : Gh} {Q : APost} {F : Fr} {H H' : List AObj} (σ : List Nat) {f : FuncId} {args0 args : List AVal} {v v' : AVal} {H0 H1 : List AObj} (hc : ACalls P f args0 H0 (onep v H1)) {s s' : Pt} {ops : Array Oper} {dst : Option Tmp} {o : Op} {type : TypeId} {pos : String} {after : Array Edge} {guard : Option (Nat × Bool)}
  (h : nextO s = some (ops, ⟨dst, o, type, pos, after, guard⟩, none, s')) (ho : callO F o = some (f, args)) (hg : guardA ops F ⟨dst, o, type, pos, after, guard⟩ = some true) (hσ : sigA σ H H0 args0 args)
  (hv : nrm (rnV (tau σ H.length) v) = some v') (hH : nrmH (putBack (tau σ H.length) σ H H1) = some H') (hd : dstOk G.n dst = true) (next : Q (.panic v') F H') : J P G Q s F H := by
 refine jpanS h hg hd ?_ next
 obtain ⟨h1, h2, h3, h4, h5, h6⟩ := hσ
 have hf := hc.from σ h2 h3 h4 h5 (fun i j hij => by
  have := congrArg (fun l => l[i]?) h6
  simp only [List.getElem?_map, hij, Option.map_some] at this
  cases hi : H0[i]? with
  | none => rw [hi] at this; cases this
  | some o => rw [hi] at this; simpa using this)
 rw [h1] at hf
 refine callO_sem ho (hf.mono ?_)
 rintro r G ⟨r0, Ho, ⟨rfl, rfl⟩, _, rfl, rfl⟩
 exact ⟨by rw [nrm_eq _ hv], (nrmH_eq hH).symm⟩
theorem qpan {tab : List TyRow} {rs : List ResultVar} {n : Nat} {v v' w : AVal} {F : Fr} {H H' Hv : List AObj} (ks : List Nat) (wk : Bool) (h2 : keepOk n ks = true) (h3 : finish n ks wk H v = some (v', H')) (h4 : v' = w) (h5 : H' = Hv) : BodyQ tab rs n (onep w Hv) (.panic v) F H :=
 ⟨v', H', ks, wk, h2, h3, by rw [h4]; exact ⟨rfl, h5⟩⟩
section
variable [T : TyTab P] {F : Fr} {H : List AObj} {dst : Option Tmp} {type : TypeId} {pos : String} {after : Array Edge} {guard : Option (Nat × Bool)} {t yt : TypeId} {x : Operand} {r : TyRow} {ms : Array (String × TypeId)}
theorem ne_nilI (hx : ev F x = some (.v .nilIface)) (ht : tfind T.tab t = some r) (hd : r.d = .interface ms) : DSem P .p ⟨dst, .binOp .neq t x (.const .nilIface) yt, type, pos, after, guard⟩ F H (.v (.bool false)) H := by
 refine ⟨rfl, fun H' => Says.sem (says_bin (b := .v .nilIface) hx rfl (fun c u u' w r1 r2 => ?_) ⟨_, rfl⟩) H'⟩
 cases (r1 : u = _); cases (r2 : u' = _)
 have hu := ty_und ht
 rw [hd] at hu
 have h : ∀ d : Nat, (Op.equalIn (d + 1) t .nilIface .nilIface).run P w = .ok true w := fun d => by simp [Op.equalIn, run_underlying hu]
 have hg : (eqGuard .neq t x (.const .nilIface) .nilIface .nilIface).run P w = .ok () w := by simp [eqGuard]
 simp only [Sem.run_bind, hg, Result.andThen_ok, binOp]
 simp [Op.equal, Op.maxDepth, h 9999]
theorem ne_ifc {tx : TypeId} {v : AVal} (hx : ev F x = some (.ifc tx v)) (ht : tfind T.tab t = some r) (hd : r.d = .interface ms) : DSem P .p ⟨dst, .binOp .neq t x (.const .nilIface) yt, type, pos, after, guard⟩ F H (.v (.bool true)) H := by
 refine ⟨rfl, fun H' => Says.sem (says_bin (b := .v .nilIface) hx rfl (fun c u u' w r1 r2 => ?_) ⟨_, rfl⟩) H'⟩
 obtain ⟨y, rfl, _⟩ := r1
 cases (r2 : u' = _)
 have hu := ty_und ht
 rw [hd] at hu
 have h : ∀ d : Nat, (Op.equalIn (d + 1) t (.iface tx y) .nilIface).run P w = .ok false w := fun d => by simp [Op.equalIn, run_underlying hu]
 have hg : (eqGuard .neq t x (.const .nilIface) (.iface tx y) .nilIface).run P w = .ok () w := by simp [eqGuard]
 simp only [Sem.run_bind, hg, Result.andThen_ok, binOp]
 simp [Op.equal, Op.maxDepth, h 9999]
theorem ta_ok {tx : TypeId} {v : AVal} (hx : ev F x = some (.ifc t v)) (ht : tfind T.tab t = some r) (hd : ∀ ms, r.d ≠ .interface ms) : DSem P .p ⟨dst, .typeAssert x tx t true, type, pos, after, guard⟩ F H (.tup [v, .v (.bool true)]) H := by
 refine ⟨rfl, fun H' => ?_⟩
 intro ext w β ρ hI hext hκ hρ
 obtain ⟨y, hy, hv⟩ := hρ x (by simp [Op.operands]) _ hx
 have h4 : (execOp ρ ⟨dst, .typeAssert x tx t true, type, pos, after, guard⟩).run P w = .ok (.value (.tuple #[y, .bool true])) w := by
  simp only [execOp, hy, Instr.typeAssert, Sem.run_bind, run_und ht, Result.andThen_ok]
  split <;> first | rfl | (exfalso; simp_all) | simp_all
 rw [h4]
 exact came_same hI ⟨_, rfl, y, _, rfl, hv, _, [], rfl, rfl, rfl⟩
end
def Only (K : Fr → List AObj → Prop) : APost
 | .normal, F, H => K F H
 | _, _, _ => False
def EndD (P : Program) (n : Nat) (Q : Eff) (g : FuncId) (ca : List AVal) : APost
 | .normal, _, H | .ret, _, H => ∃ Hc Ho ks wk, ADCalls P g ca H none Hc ∧ keepOk n ks = true ∧ finish n ks wk Hc (.tup []) = some (.tup [], Ho) ∧ Q (.ret (.tup [])) Ho
 | .panic v, _, H => ∃ Hc Ho ks wk, ADCalls P g ca H (some v) Hc ∧ keepOk n ks = true ∧ finish n ks wk Hc (.tup []) = some (.tup [], Ho) ∧ Q (.ret (.tup [])) Ho
 | _, _, _ => False
theorem lift_only {G : Gh} {K : Fr → List AObj → Prop} {C : Exit → Act → World → Prop} {y : Code} {Q : Exit → Act → World → Prop} (h : ∀ a w F H, K F H → St G F H a w → C .normal a w) : ∀ e a w, lift G (Only K) e a w → C e a w
 | .normal, a, w, ⟨F, H, hk, hs⟩ => h a w F H hk hs
 | .exit _, _, _, ⟨_, _, hk, _⟩ => hk.elim
 | .ret, _, _, ⟨_, _, hk, _⟩ => hk.elim
 | .panic _, _, _, ⟨_, _, _, _, _, hk, _⟩ => hk.elim
 | .goto _, _, _, hk => hk.elim
 | .outgrown, _, _, hk => hk.elim
theorem acalls_try [T : TyTab P] {f : FuncId} {fn : Func} {r0 r1 B : Code} {args : List AVal} {H : List AObj} {Q : Eff} {N i t : Nat} {mf : Oper} {ty : TypeId} {p : String} {af : Array Edge}
  (hf : P.funcs[f]? = some fn)
  (hb : fn.body = some (r0.seq (r1.seq ((Code.region i #[mf, ⟨none, .defer { callee := .value (.tmp t), args := #[], argTypes := #[] }, ty, p, af, none⟩] false).seq B))))
  (hname : (fn.name == "runtime.NumGoroutine") = false) (hN : fn.ntmps = N) (hl : Nat.ble args.length N = true) (hrs : fn.results.toList = [])
  (h : ∀ w0 β0 ext, β0.length = H.length → J P ⟨w0, β0, ext, N, [], none, true⟩ (Only fun F1 H1 => J P ⟨w0, β0, ext, N, [], none, true⟩ (Only fun F2 H2 =>
    J P ⟨w0, β0, ext, N, [], none, true⟩ (Only fun F3 H3 => ∃ g first cap, ev F3 (.tmp t) = some (.fn (.func g) first cap) ∧ Enters P g ∧
     ∀ w1 β1 d, J P ⟨w1, β1, ext, N, [d], none, true⟩ (EndD P H.length Q g (first ++ cap)) (.c B .nil) F3 H3)
     (.l #[mf, ⟨none, .defer { callee := .value (.tmp t), args := #[], argTypes := #[] }, ty, p, af, none⟩] [mf] .nil) F2 H2) (.c r1 .nil) F1 H1) (.c r0 .nil) (params 0 args) H) : ACalls P f args H Q := by
 refine ⟨⟨fn, hf, hname, by rw [hb]; rfl⟩, fun ext w β us hI hx hr => ?_⟩
 have hst := start_st (G := ⟨w, β, ext, N, [], none, true⟩) rfl hN (Nat.le_of_ble_eq_true hl) hI hx hr
 refine (callsIn_wide (n := 0)).1 (callsIn_of_wp_marks hf hb trivial ?_)
 refine wpIn_seq (wpIn_mono (h w β ext hI.len _ w ⟨β, hst⟩) (lift_only (y := .skip) (Q := fun _ _ _ => False) fun a1 w1 F1 H1 h1 hs1 => ?_))
 refine wpIn_seq (wpIn_mono (h1 a1 w1 hs1) (lift_only (y := .skip) (Q := fun _ _ _ => False) fun a2 w2 F2 H2 h2 hs2 => ?_))
 refine wpIn_seq (wpIn_region_list ?_)
 obtain ⟨hd, hx2⟩ := h2
 obtain ⟨β2, hs2'⟩ := id hs2
 show wpListIn Fence.wide 0 P _ _ [_, _] a2 w2
 have tail : ∀ a3 w3 F3 H3, (∃ g first cap, ev F3 (.tmp t) = some (.fn (.func g) first cap) ∧ Enters P g ∧ ∀ w1 β1 d, J P ⟨w1, β1, ext, N, [d], none, true⟩ (EndD P H.length Q g (first ++ cap)) (.c B .nil) F3 H3) →
   St ⟨w, β, ext, N, [], none, true⟩ F3 H3 a3 w3 →
   wpListIn Fence.wide 0 P #[mf, ⟨none, .defer { callee := .value (.tmp t), args := #[], argTypes := #[] }, ty, p, af, none⟩] (Exit.then (B.wpIn Fence.wide 0 P (bodyPostM Fence.wide 0 P fn (Ended ext w β Q))) (bodyPostM Fence.wide 0 P fn (Ended ext w β Q)))
    [⟨none, .defer { callee := .value (.tmp t), args := #[], argTypes := #[] }, ty, p, af, none⟩] a3 w3 := by
  rintro a3 w3 F3 H3 ⟨g, first, cap, hev, hen, hB⟩ ⟨β3, hs3⟩
  obtain ⟨ms, m1, m2, m3, m4⟩ := hs3.defers
  have hms : ms = [] := m4 rfl
  subst hms
  have hd3 : a3.defers = [] := m2
  obtain ⟨c1, c2, hu, r1', r2'⟩ := hs3.ev hev
  unfold wpListIn
  rw [if_pos (by rfl)]
  refine ⟨fun _ _ => trivial, ?_⟩
  have hex : ((⟨none, .defer { callee := .value (.tmp t), args := #[], argTypes := #[] }, ty, p, af, none⟩ : Oper).semAt Fence.wide.round a3.eval).run P w3 = .ok (.defer { target := .fn (.func g) c2, args := c1 }) w3 := by
   have hsem : ∀ o : Oper, Oper.semAt Fence.wide.round a3.eval o = execOp a3.eval o := fun o => rfl
   rw [hsem]
   simp only [execOp, resolve, hu, Deferred.ofValue, Sem.run_bind, Sem.run_pure, Result.andThen_ok]
   simp
  rw [hex, Oper.uponIn_defer]
  unfold wpListIn
  rw [hd3]
  show B.wpIn Fence.wide 0 P (bodyPostM Fence.wide 0 P fn (Ended ext w β Q)) { a3 with defers := [{ target := .fn (.func g) c2, args := c1 }] } w3
  have hs4 : St ⟨w3, β3, ext, N, [{ target := .fn (.func g) c2, args := c1 }], none, true⟩ F3 H3 { a3 with defers := [{ target := .fn (.func g) c2, args := c1 }] } w3 :=
   ⟨β3, hs3.inv, Step.refl w3 β3, hs3.extOk, hs3.size, ⟨[], List.nodup_nil, rfl, fun r hr => by simp at hr, fun _ => rfl⟩, fun s v hv => hs3.get s v hv⟩
  refine wpIn_mono (hB w3 β3 _ _ w3 hs4) fun e a4 w4 he => ?_
  -- the closure
  have fin : ∀ (m : Option AVal) (u : FrameMode) (F4 : Fr) (H4 Hc Ho : List AObj) (ks : List Nat) (wk : Bool) (β4 : List Ent), u ≠ .run → ModeIs (ctx ext w4 β4) m u → StB ⟨w3, β3, ext, N, [{ target := .fn (.func g) c2, args := c1 }], none, true⟩ β4 F4 H4 a4 w4 →
    ADCalls P g (first ++ cap) H4 m Hc → keepOk H.length ks = true → finish H.length ks wk Hc (.tup []) = some (.tup [], Ho) → Q (.ret (.tup [])) Ho → LeavesInM Fence.wide 0 P fn a4.tmps (Ended ext w β Q) a4.defers u w4 := by
   intro m u F4 H4 Hc Ho ks wk β4 hu4 hm hs4 hA hk hfi hQ
   obtain ⟨ms, q1, q2, q3, q4⟩ := hs4.defers
   have hms : ms = [] := q4 rfl
   subst hms
   have hd4 : a4.defers = [{ target := .fn (.func g) c2, args := c1 }] := q2
   rw [hd4]
   have hstep4 : Step w3 β3 w4 β4 := hs4.step
   have hrel : RelL (ctx ext w4 β4) (first ++ cap) (c1.toList ++ c2.toList) := (r1'.append r2').le hstep4.le
   have hcall := hA.calls ext w4 β4 (c1.toList ++ c2.toList) u hs4.inv hs4.extOk hrel hm
   have harr : (c1.toList ++ c2.toList).toArray = c1 ++ c2 := by apply Array.ext'; simp
   rw [harr] at hcall
   refine ⟨hu4, .inr ⟨fun h => by simp [Fence.wide] at h, _, _, g, c1 ++ c2, rfl, ?_, fun _ _ => trivial, CallsDIn.mono hcall fun e u' w5 ⟨⟨v, hv⟩, hset, β5, hI5, hs5⟩ => ?_⟩⟩
   ·simp only [invoke]
    exact callFunc_run hen _ w4
   ·subst hv
    show LeavesIn Fence.wide 0 P fn a4.tmps (Ended ext w β Q) [] (settle u') w5
    rw [hset]
    refine ⟨.tuple #[], by unfold results; rw [Array.mapM_eq_mapM_toList, hrs]; simp only [List.mapM_nil, Sem.run_bind, Sem.run_map, Sem.run_pure]; rfl, ?_⟩
    exact Came.mono (fun q G' ⟨e1, e2⟩ => by subst e1; subst e2; exact hQ) (finish_came (k := .ret) hI5 ((hs3.step.trans hstep4).trans hs5) hI.len (show Rel _ (.tup []) (.tuple #[]) from ⟨#[], rfl, rfl⟩) hk hfi)
  cases e with
  | normal =>
   obtain ⟨F4, H4, ⟨Hc, Ho, ks, wk, k1, k2, k3, k4⟩, β4, hs4⟩ := he
   exact fin none .returning F4 H4 Hc Ho ks wk β4 (by simp) rfl hs4 k1 k2 k3 k4
  | ret =>
   obtain ⟨F4, H4, ⟨Hc, Ho, ks, wk, k1, k2, k3, k4⟩, β4, hs4⟩ := he
   exact fin none .returning F4 H4 Hc Ho ks wk β4 (by simp) rfl hs4 k1 k2 k3 k4
  | exit id => obtain ⟨_, _, h1, _⟩ := he; exact h1.elim
  | goto l => exact he.elim
  | outgrown => exact he.elim
  | panic ch =>
   obtain ⟨v, F4, H4, β4, u, ⟨Hc, Ho, ks, wk, k1, k2, k3, k4⟩, hs4, hch, hrel⟩ := he
   exact fin (some v) (.panicking ch) F4 H4 Hc Ho ks wk β4 (by simp) ⟨u, by rw [hch], hrel⟩ hs4 k1 k2 k3 k4
 unfold wpListIn
 rcases hx2 with ⟨hg, res, ho, hres⟩ | ⟨hg, hres⟩
 ·rw [if_pos (guardA_ok hs2' hg)]
  refine opIn_mono (op_wp (Q := fun _ _ _ => False) hd ho hs2 fun r H' hr => ?_) (fun e a w he => by
   cases e with
   | normal => obtain ⟨_, _, h1, _⟩ := he; exact h1.elim
   | exit id => obtain ⟨_, _, h1, _⟩ := he; exact h1.elim
   | ret => obtain ⟨_, _, h1, _⟩ := he; exact h1.elim
   | panic ch => obtain ⟨_, _, _, _, _, h1, _⟩ := he; exact h1.elim
   | goto l => exact he.elim
   | outgrown => exact he.elim)
  have := hres r H' hr
  cases r with
  | ret v => exact fun a w hs => tail a w _ _ this hs
  | pan v => exact this
 ·rw [if_neg (by rw [guardA_ok hs2' hg]; simp)]
  exact ⟨fun _ _ => trivial, tail _ _ _ _ hres ⟨β2, hs2'.undef hd⟩⟩
theorem aw_weak {G : Gh} {c : Code} {Q : APost} {F : Fr} {H : List AObj} (t : Nat) {v v' : AVal} (h1 : fget F t = some v) (hr : ∀ (c : Ctx) u, Rel c v u → Rel c v' u) (h : AW P G c Q ((t, v') :: F) H) : AW P G c Q F H := by
 rintro a w ⟨β, hs⟩
 refine h a w ⟨β, hs.inv, hs.step, hs.extOk, hs.size, hs.defers, fun s x hx => ?_⟩
 simp only [fget] at hx
 cases hb : Nat.beq t s with
 | true =>
  rw [hb] at hx; simp at hx; subst hx
  have := Nat.eq_of_beq_eq_true hb
  subst this
  obtain ⟨u, g1, g2⟩ := hs.get t v h1
  exact ⟨u, g1, hr _ u g2⟩
 | false => rw [hb] at hx; exact hs.get s x hx
theorem jweak {G : Gh} {Q : APost} {F F' : Fr} {H : List AObj} {k : Kt} {c : Code} (t : Nat) {v : AVal} (v' : AVal) (h1 : fget F t = some v) (hF : fsetO F t v' = some F') (hr : ∀ (c : Ctx) u, Rel c v u → Rel c v' u) (h : J P G Q (.c c k) F' H) : J P G Q (.c c k) F H :=
 aw_weak t h1 hr (aw_frame F' (fun s u hs => fsetO_get hF s u hs) h)
theorem aw_weakB {G : Gh} {c : Code} {Q : APost} {F : Fr} {H : List AObj} (j : Nat) {bt : TypeId} {cs cs' : List AVal} (hj : H[j]? = some (.box bt cs)) (ho : cs'.all AVal.one = true) (hr : ∀ (c : Ctx) us, RelL c cs us → RelL c cs' us) (h : AW P G c Q F (H.set j (.box bt cs'))) : AW P G c Q F H := by
 rintro a w ⟨β, hs⟩
 refine h a w ⟨β, ⟨by rw [List.length_set]; exact hs.inv.len, fun i o e hi he => ?_, hs.inv.uniq, hs.inv.sep⟩, hs.step, hs.extOk, hs.size, hs.defers, hs.get⟩
 by_cases hij : i = j
 ·subst hij
  have hlt := (List.getElem?_eq_some_iff.1 hj).1
  rw [List.getElem?_set_self hlt] at hi
  injection hi with hi; subst hi
  obtain ⟨g1, g2, b, us, g3, g4, g5⟩ := hs.inv.obj i _ e hj he
  exact ⟨g1, ho, b, us, g3, g4, hr _ _ g5⟩
 ·rw [List.getElem?_set_ne (by omega)] at hi
  exact hs.inv.obj i o e hi he
theorem jweakB {G : Gh} {Q : APost} {F : Fr} {H H' : List AObj} {k : Kt} {c : Code} (j : Nat) {bt : TypeId} {cs : List AVal} (cs' : List AVal) (hj : H[j]? = some (.box bt cs)) (ho : cs'.all AVal.one = true) (hH : hsetO H j (.box bt cs') = some H') (hr : ∀ (c : Ctx) us, RelL c cs us → RelL c cs' us) (h : J P G Q (.c c k) F H') : J P G Q (.c c k) F H := by
 rw [hsetO_eq hH] at h
 exact aw_weakB j hj ho hr h
theorem relL_cons {c : Ctx} {x y : AVal} {xs ys : List AVal} (h1 : ∀ u, Rel c x u → Rel c y u) (h2 : ∀ us, RelL c xs us → RelL c ys us) : ∀ us, RelL c (x :: xs) us → RelL c (y :: ys) us := by
 rintro _ ⟨u, us, rfl, r, rs⟩
 exact ⟨u, us, rfl, h1 u r, h2 us rs⟩
theorem slf_slz {c : Ctx} {xs : List AVal} {u : Value} (h : Rel c (.slf xs) u) : Rel c (.slz xs) u := by
 obtain ⟨A, es, h1, h2, h3⟩ := h
 exact ⟨A, _, es, h1, Nat.le_refl _, h2, h3, fun e => by rw [e]; rfl⟩
theorem slz_slf {c : Ctx} {u : Value} (h : Rel c (.slz []) u) : Rel c (.slf []) u := by
 obtain ⟨A, m, es, h1, h2, h3, h4, h5⟩ := h
 exact ⟨A, es, by rw [h1, h5 rfl]; rfl, h3, h4⟩
theorem sl_slz {c : Ctx} {x : AVal} {xs : List AVal} {u : Value} (h : Rel c (.sl (x :: xs)) u) : Rel c (.slz (x :: xs)) u := by
 obtain ⟨A, m, es, h1, h2, h3, h4⟩ := h
 exact ⟨A, m, es, h1, h2, h3, h4, fun e => by cases e⟩
theorem arr_at [T : TyTab P] {dst : Option Tmp} {t : TypeId} {x : Operand} {type : TypeId} {pos : String} {after : Array Edge} {guard : Option (Nat × Bool)} {F : Fr} {H : List AObj} {j off len cap n : Nat} {e : TypeId} {r : TyRow}
  (hx : ev F x = some (.bs j off len cap)) (ht : tfind T.tab t = some r) (hd : r.d = .array n e) (hn : n ≤ len) : DSem P .p ⟨dst, .sliceToArrayPointer t x, type, pos, after, guard⟩ F H (.ptr j off) H := by
 refine ⟨rfl, fun H' => ?_⟩
 intro ext w β ρ hI hext hκ hρ
 obtain ⟨ent, b, e1, e2, e3, hu⟩ := hρ x (by simp [Op.operands]) _ hx
 have h4 : (execOp ρ ⟨dst, .sliceToArrayPointer t x, type, pos, after, guard⟩).run P w = .ok (.value (.pointer (some ⟨b, off, none⟩))) w := by
  have hlt : ¬ len < n := by omega
  simp [execOp, Instr.arrayAt, hu, run_und ht, hd, hlt]
 rw [h4]
 exact came_same hI ⟨ent, b, e1, e2, e3, rfl⟩
end
end Go.AL
end
section
namespace Go.AL
open Go
theorem drawn_any {P : Program} {G : Gh} {Q : APost} [T : TyTab P] {l : List Oper} {L : List (Nat × Oper × K)} {F : Fr} {H : List AObj} (hops : ∀ x ∈ L, l.toArray[x.1]? = some x.2.1) (hc : drawOkT l L = true)
  (h : AWD P G l.toArray (fun F H => Q .normal F H) L F H) {a : Act} {w : World} (hs : St G F H a w) : wpAnyIn (fz G.rd) 0 P .any l.toArray (lift G fun e F H => ∃ F0, FrEq F0 F ∧ Q e F0 H) l.toArray.size (Array.replicate l.toArray.size false) a w := by
 simp only [drawOkT, Bool.and_eq_true] at hc
 obtain ⟨c1, c2⟩ := hc
 have c1 := Nat.eq_of_beq_eq_true c1
 have c3 := drawGoT_split (ops := l.toArray) (fun i y hy => by simp [maskOf] at hy) hops c2
 have n1 : (L.map (·.1)).Nodup := split_nodup fun L1 x L2 e y hy => (c3 L1 x L2 e).2.2.1 y hy
 let Q' : APost := fun e F H => ∃ F0, FrEq F0 F ∧ Q e F0 H
 have hQ' : ∀ F F' H, FrEq F F' → Q' .normal F H → Q' .normal F' H := fun F F' H he ⟨F0, h0, h1⟩ => ⟨F0, fun t => (h0 t).trans (he t), h1⟩
 have h' : AWD P G l.toArray (Q' .normal) L F H := by
  have : ∀ (L : List (Nat × Oper × K)) (F : Fr) (H : List AObj), AWD P G l.toArray (fun F H => Q .normal F H) L F H → AWD P G l.toArray (Q' .normal) L F H := by
   intro L
   induction L with
   | nil => intro F H h; exact ⟨F, fun _ => rfl, h⟩
   | cons x r ih => intro F H ⟨hd, v, H1, h1, h2⟩; exact ⟨hd, v, H1, h1, ih _ _ h2⟩
  exact this L F H h
 refine awd_anyT hQ' _ L _ F H (by simpa using c1) ⟨by simp, fun i hi => ?_⟩ hops n1 ?_ ?_ h' a _ hs
 ·have hm : i ∈ L.map (·.1) := nodup_full n1 (by simpa using c1) (fun y hy => by
   obtain ⟨x, hx, rfl⟩ := List.mem_map.1 hy
   have := (Array.getElem?_eq_some_iff.1 (hops x hx)).1
   simpa using this) i (by simpa using hi)
  obtain ⟨x, hx, hxi⟩ := List.mem_map.1 hm
  have hi' : i < l.length := by simpa using hi
  constructor
  ·intro _; exact ⟨x, hx, hxi⟩
  ·intro _; simp [hi']
 ·intro L1 x L2 hL
  obtain ⟨s1, s2, s3, s4, s5, s6⟩ := c3 L1 x L2 hL
  refine ⟨fun y hy hyx e he hb hey => ?_, fun e he hb => ?_, fun y hy => s5 y hy⟩
  ·rcases s1 e he hb with ⟨z, hz, hze⟩ | ⟨z, hz, _⟩
   ·rw [hL] at n1
    simp only [List.map_append, List.map_cons] at n1
    rw [List.nodup_append] at n1
    exact n1.2.2 z.1 (List.mem_map.2 ⟨z, hz, rfl⟩) y.1 (List.mem_cons_of_mem _ (List.mem_map.2 ⟨y, hy, rfl⟩)) (hze.trans hey)
   ·cases hz
  ·rcases s1 e he hb with ⟨z, hz, hze⟩ | ⟨z, hz, _⟩
   ·have hz' : z ∈ L := by rw [hL]; exact List.mem_append_left _ hz
    have := (Array.getElem?_eq_some_iff.1 (hops z hz')).1
    exact ⟨by rw [← hze]; exact this, fun hex => s3 z hz (hze.trans hex)⟩
   ·cases hz
 ·intro z o ho hz
  have hlt := (Array.getElem?_eq_some_iff.1 ho).1
  simp at hlt
  simp [hlt] at hz
def lastOk (l : List Oper) (o : Oper) : Bool :=
 (l ++ [o]).all (fun x => x.guard.isNone) && ((List.range l.length).all (fun i => (List.range (l.length + 1)).any fun j => Nat.blt i j && (match (l ++ [o])[j]? with | some x => waits x i | none => false)) &&
  (List.range (l.length + 1)).all (fun j => match (l ++ [o])[j]? with | some x => x.after.toList.all (fun e => !Region.binds .any e || Nat.blt e.on j) | none => true))
theorem push_get' {b : Array Bool} {i : Nat} {d : Bool} (h : i < b.size) : (b.push false).getD i d = b.getD i d := by
 simp only [Array.getD_eq_getD_getElem?, Array.getElem?_push_lt h, Array.getElem?_eq_getElem h]
theorem push_set {b : Array Bool} {i : Nat} (h : i < b.size) : (b.push false).setIfInBounds i true = (b.setIfInBounds i true).push false := by
 apply Array.ext_getElem?
 intro j
 rcases Nat.lt_trichotomy j b.size with hj | hj | hj
 ·rw [Array.getElem?_setIfInBounds, Array.getElem?_push_lt (by simpa using hj)]
  by_cases e : i = j
  ·subst e; simp [Array.getElem_setIfInBounds, h, Nat.lt_succ_of_lt h, Array.getElem_push_lt]
  ·simp [e, Array.getElem?_push_lt hj, Array.getElem?_push_lt (show j < (b.setIfInBounds i true).size by simpa using hj), Array.getElem_setIfInBounds, hj]
 ·subst hj
  rw [Array.getElem?_setIfInBounds_ne (by omega)]
  have e1 : (b.push false)[b.size]? = some false := by simp
  have e2 : ((b.setIfInBounds i true).push false)[b.size]? = some false := by
   have := Array.getElem?_push_size (xs := b.setIfInBounds i true) (x := false)
   simpa using this
  rw [e1, e2]
 ·rw [Array.getElem?_eq_none (by simp; omega), Array.getElem?_eq_none (by simp; omega)]
theorem opIn_mono2 {P : Program} {Fn : Fence} {n : Nat} {o : Oper} {a : Act} {w : World} {K : Act → World → Prop} {Q Q' : Exit → Act → World → Prop} (h : o.wpIn Fn n P a w K Q) (hq : ∀ ch a w, Q (.panic ch) a w → Q' (.panic ch) a w) (hq2 : ∀ a w, Q .outgrown a w → Q' .outgrown a w) : o.wpIn Fn n P a w K Q' := by
 refine ⟨h.1, ?_⟩
 have h2 := h.2
 generalize (o.semAt Fn.round a.eval).run P w = r at h2
 cases r with
 | ok x w' =>
  cases x <;> simp only [Oper.uponIn] at h2 ⊢ <;> try exact h2
  ·refine ⟨h2.1, CallsIn.mono h2.2 fun e w'' he => ?_⟩
   cases e with
   | returned v => exact he
   | panicked ch => exact hq _ _ _ he
   | outgrown => exact let ⟨a, w, h⟩ := he; ⟨a, w, hq2 _ _ h⟩
  ·refine ⟨h2.1, RoundIn.mono h2.2 fun e w'' he => ?_⟩
   cases e with
   | returned v => exact he
   | panicked ch => exact hq _ _ _ he
   | outgrown => exact let ⟨a, w, h⟩ := he; ⟨a, w, hq2 _ _ h⟩
 | halt x w' =>
  cases x <;> simp only [Oper.uponIn] at h2 ⊢ <;> first | exact hq _ _ _ h2 | exact h2
section
variable {P : Program} {G : Gh} {Q Q1 : APost} {l : List Oper} {o : Oper}
def ClosedL (l : List Oper) (b : Array Bool) : Prop := ∀ i x, l[i]? = some x → b.getD i false = true → ∀ e ∈ x.after, Region.binds .any e = true → b.getD e.on false = true
theorem any_last (hl : lastOk l o = true) (hq1 : ∀ e F H, e ≠ .normal → ¬ Q1 e F H) (hQ : ∀ a w, lift G Q1 .normal a w → o.wpIn (fz G.rd) 0 P a w (fun a w => lift G Q .normal a w) (lift G Q)) :
  ∀ (m : Nat) (b : Array Bool) (a : Act) (w : World), b.size = l.length → ClosedL l b → wpAnyIn (fz G.rd) 0 P .any l.toArray (lift G Q1) m b a w → wpAnyIn (fz G.rd) 0 P .any (l ++ [o]).toArray (lift G Q) (m + 1) (b.push false) a w := by
 simp only [lastOk, Bool.and_eq_true, List.all_eq_true, List.mem_range] at hl
 obtain ⟨g1, g2, g3⟩ := hl
 have hgd : ∀ x ∈ l ++ [o], x.guard = none := fun x hx => by simpa using g1 x hx
 have hwn : ∀ x ∈ l ++ [o], ∀ y, Region.wanted x y = true := fun x hx y => by unfold Region.wanted; rw [hgd x hx]
 have hlow : ∀ j x, (l ++ [o])[j]? = some x → ∀ e ∈ x.after, Region.binds .any e = true → e.on < j := fun j x hx e he hb => by
  have hj : j < l.length + 1 := by have := (List.getElem?_eq_some_iff.1 hx).1; simpa using this
  have h := g3 j hj
  rw [hx] at h
  simp only [List.all_eq_true] at h
  have := h e (by simpa using he)
  rw [hb] at this
  simpa [Nat.blt_eq] using this
 have hop : ∀ i, i < l.length → (l ++ [o]).toArray[i]? = l.toArray[i]? := fun i hi => by
  simp [List.getElem?_append_left hi]
 have hbadE : ∀ e a w, e ≠ .normal → ¬ lift G Q1 e a w := by
  intro e a w hne h
  cases e with
  | normal => exact hne rfl
  | exit id => obtain ⟨F, H, h1, _⟩ := h; exact hq1 _ _ _ (by simp) h1
  | ret => obtain ⟨F, H, h1, _⟩ := h; exact hq1 _ _ _ (by simp) h1
  | panic ch => obtain ⟨v, F, H, β, u, h1, _⟩ := h; exact hq1 _ _ _ (by simp) h1
  | goto l => exact h.elim
  | outgrown => exact h.elim
 -- what is ready
 have rd : ∀ (b : Array Bool), b.size = l.length → ∀ i, i < l.length → (i ∈ Region.ready .any (l ++ [o]).toArray (b.push false) ↔ i ∈ Region.ready .any l.toArray b) := by
  intro b hb i hi
  rw [mem_ready, mem_ready, hop i hi, push_get' (by omega)]
  constructor
  ·rintro ⟨h1, x, hx, h2⟩
   refine ⟨h1, x, hx, fun e he hbd => ?_⟩
   have hlt := hlow i x (by rw [← hop i hi] at hx; simpa using hx) e he hbd
   have := h2 e he hbd
   rwa [push_get' (by omega)] at this
  ·rintro ⟨h1, x, hx, h2⟩
   refine ⟨h1, x, hx, fun e he hbd => ?_⟩
   have hlt := hlow i x (by rw [← hop i hi] at hx; simpa using hx) e he hbd
   rw [push_get' (by omega)]
   exact h2 e he hbd
 have hmin : ∀ (b : Array Bool), b.size = l.length → (∃ i, i < l.length ∧ b.getD i true = false) → ∃ i, i < l.length ∧ i ∈ Region.ready .any l.toArray b := by
  rintro b hb ⟨i, hi, hf⟩
  induction i using Nat.strongRecOn with
  | _ i ih =>
   by_cases hx : ∃ j, j < i ∧ b.getD j true = false
   ·obtain ⟨j, hj, hjf⟩ := hx
    exact ih j hj (by omega) hjf
   ·refine ⟨i, hi, mem_ready.2 ⟨hf, l[i], by simp [hi], fun e he hbd => ?_⟩⟩
    have hlt := hlow i l[i] (by rw [List.getElem?_append_left hi, List.getElem?_eq_getElem hi]) e he hbd
    have : ¬ b.getD e.on true = false := fun h => hx ⟨e.on, hlt, h⟩
    have hs : e.on < b.size := by omega
    simp only [Array.getD_eq_getD_getElem?, Array.getElem?_eq_getElem hs, Option.getD_some] at this ⊢
    simpa using this
 have hall : ∀ (b : Array Bool), b.size = l.length → ClosedL l b → l.length ∈ Region.ready .any (l ++ [o]).toArray (b.push false) → ∀ i, i < l.length → b.getD i false = true := by
  intro b hb hc hr
  obtain ⟨_, x, hx, h2⟩ := mem_ready.1 hr
  have hx : x = o := by simpa using hx.symm
  subst hx
  have : ∀ d i, i < l.length → l.length - i = d → b.getD i false = true := by
   intro d
   induction d using Nat.strongRecOn with
   | _ d ih =>
    intro i hi hd
    have h := g2 i hi
    obtain ⟨j, hj, hw⟩ := List.any_eq_true.1 h
    rw [Bool.and_eq_true, Nat.blt_eq] at hw
    obtain ⟨hij, hw⟩ := hw
    have hj : j < l.length + 1 := by simpa using hj
    cases hjx : (l ++ [x])[j]? with
    | none => rw [hjx] at hw; cases hw
    | some y =>
     rw [hjx] at hw
     simp only [waits, List.any_eq_true, Bool.and_eq_true] at hw
     obtain ⟨e, he, hbd, hon⟩ := hw
     have hon := Nat.eq_of_beq_eq_true hon
     by_cases hjl : j = l.length
     ·subst hjl
      have hy : y = x := by simpa using hjx.symm
      subst hy
      have := h2 e (by simpa using he) hbd
      rw [hon, push_get' (by omega)] at this
      exact this
     ·have hj2 : j < l.length := by omega
      have h3 := ih (l.length - j) (by omega) j hj2 rfl
      rw [List.getElem?_append_left hj2] at hjx
      have := hc j y hjx h3 e (by simpa using he) hbd
      rwa [hon] at this
  exact fun i hi => this _ i hi rfl
 -- the last one
 have hlast : ∀ (m : Nat) (b : Array Bool) (a : Act) (w : World), b.size = l.length → (∀ i, i < l.length → b.getD i false = true) → lift G Q1 .normal a w → wpAnyIn (fz G.rd) 0 P .any (l ++ [o]).toArray (lift G Q) (m + 1) (b.push false) a w := by
  intro m b a w hb hfull hq
  have hend : Region.ready .any (l ++ [o]).toArray ((b.push false).setIfInBounds l.length true) = [] := by
   cases hr : Region.ready .any (l ++ [o]).toArray ((b.push false).setIfInBounds l.length true) with
   | nil => rfl
   | cons i r =>
    exfalso
    have hi : i ∈ Region.ready .any (l ++ [o]).toArray ((b.push false).setIfInBounds l.length true) := by rw [hr]; exact List.mem_cons_self ..
    obtain ⟨h0, x, hx, _⟩ := mem_ready.1 hi
    have hlt : i < l.length + 1 := by have := (Array.getElem?_eq_some_iff.1 hx).1; simpa using this
    have : ((b.push false).setIfInBounds l.length true).getD i true = true := by
     by_cases e : i = l.length
     ·subst e; simp [hb]
     ·have h1 := hfull i (by omega)
      have hs : i < b.size := by omega
      have hne : l.length ≠ i := by omega
      simp only [Array.getD_eq_getD_getElem?, Array.getElem?_eq_getElem hs, Option.getD_some] at h1
      simp [Array.getD_eq_getD_getElem?, Array.getElem?_setIfInBounds_ne hne, Array.getElem?_push_lt hs, h1]
    rw [this] at h0; cases h0
  refine ⟨fun hr => ?_, fun i hi => ?_⟩
  ·exfalso
   have : l.length ∈ Region.ready .any (l ++ [o]).toArray (b.push false) := by
    refine mem_ready.2 ⟨by simp [← hb], o, by simp, fun e he hbd => ?_⟩
    have hlt := hlow l.length o (by simp) e he hbd
    rw [push_get' (by omega)]
    exact hfull _ hlt
   rw [hr] at this; cases this
  ·have hil : i = l.length := by
    obtain ⟨h0, x, hx, _⟩ := mem_ready.1 hi
    have hlt : i < l.length + 1 := by have := (Array.getElem?_eq_some_iff.1 hx).1; simpa using this
    by_cases e : i = l.length
    ·exact e
    ·exfalso
     have h1 := hfull i (by omega)
     rw [push_get' (by omega)] at h0
     have hs : i < b.size := by omega
     simp only [Array.getD_eq_getD_getElem?, Array.getElem?_eq_getElem hs, Option.getD_some] at h0 h1
     rw [h1] at h0; cases h0
   subst hil
   unfold wpOpIn
   have hoo : (l ++ [o]).toArray[l.length]? = some o := by simp
   rw [hoo]
   simp only
   rw [if_pos (hwn o (by simp) _)]
   refine Oper.wpIn_mono (fun a w h => ?_) (hQ a w hq)
   cases m with
   | zero => exact ⟨hend, h⟩
   | succ m => exact ⟨fun _ => h, fun i hi => by rw [hend] at hi; cases hi⟩
 intro m
 induction m with
 | zero =>
  intro b a w hb hc h
  refine hlast 0 b a w hb (fun i hi => ?_) h.2
  by_cases hf : b.getD i true = false
  ·obtain ⟨j, _, hj⟩ := hmin b hb ⟨i, hi, hf⟩
   rw [h.1] at hj; cases hj
  ·have hs : i < b.size := by omega
   simp only [Array.getD_eq_getD_getElem?, Array.getElem?_eq_getElem hs, Option.getD_some] at hf ⊢
   simpa using hf
 | succ m ih =>
  intro b a w hb hc h
  by_cases hfull : ∀ i, i < l.length → b.getD i false = true
  ·refine hlast (m + 1) b a w hb hfull (h.1 ?_)
   cases hr : Region.ready .any l.toArray b with
   | nil => rfl
   | cons i r =>
    exfalso
    have hi : i ∈ Region.ready .any l.toArray b := by rw [hr]; exact List.mem_cons_self ..
    obtain ⟨h0, x, hx, _⟩ := mem_ready.1 hi
    have hlt : i < l.length := by have := (Array.getElem?_eq_some_iff.1 hx).1; simpa using this
    have h1 := hfull i hlt
    have hs : i < b.size := by omega
    simp only [Array.getD_eq_getD_getElem?, Array.getElem?_eq_getElem hs, Option.getD_some] at h0 h1
    rw [h1] at h0; cases h0
  ·have hun : ∃ i, i < l.length ∧ b.getD i true = false := by
    rcases Classical.not_forall.1 hfull with ⟨i, hi⟩
    rcases Classical.not_imp.1 hi with ⟨hi, hf⟩
    refine ⟨i, hi, ?_⟩
    have hs : i < b.size := by omega
    simp only [Array.getD_eq_getD_getElem?, Array.getElem?_eq_getElem hs, Option.getD_some] at hf ⊢
    simpa using hf
   refine ⟨fun hr => ?_, fun i hi => ?_⟩
   ·obtain ⟨j, hj, hjr⟩ := hmin b hb hun
    have := (rd b hb j hj).2 hjr
    rw [hr] at this; cases this
   ·obtain ⟨h0, x, hx, h2⟩ := mem_ready.1 hi
    have hlt : i < l.length + 1 := by have := (Array.getElem?_eq_some_iff.1 hx).1; simpa using this
    by_cases e : i = l.length
    ·exact absurd (hall b hb hc (e ▸ hi)) hfull
    ·have hi2 : i < l.length := by omega
     have hir := (rd b hb i hi2).1 hi
     have hstep := h.2 i hir
     unfold wpOpIn at hstep ⊢
     rw [hop i hi2]
     have hxl : l.toArray[i]? = some x := by rw [← hop i hi2]; exact hx
     rw [hxl] at hstep ⊢
     simp only at hstep ⊢
     have hxm : x ∈ l ++ [o] := by
      have : l[i]? = some x := by simpa using hxl
      exact List.mem_append_left _ (List.mem_of_getElem? this)
     rw [if_pos (hwn x hxm _)] at hstep ⊢
     refine opIn_mono2 (Oper.wpIn_mono (fun a w hk => ?_) hstep) (fun ch a w he => absurd he (hbadE _ _ _ (by simp))) (fun a w he => absurd he (hbadE _ _ _ (by simp)))
     ·rw [push_set (by omega)]
      refine ih _ a w (by simpa using hb) (fun j y hy hj e he hbd => ?_) hk
      have hset : ∀ q, b.getD q false = true → (b.setIfInBounds i true).getD q false = true := fun q hq => by
       by_cases eq : i = q
       ·subst eq; simp [Array.getD_eq_getD_getElem?, show i < b.size by omega]
       ·simpa [Array.getD_eq_getD_getElem?, Array.getElem?_setIfInBounds_ne eq] using hq
      by_cases ej : i = j
      ·subst ej
       have hyx : y = x := by
        have : l[i]? = some x := by simpa using hxl
        rw [this] at hy; injection hy with hy; exact hy.symm
       subst hyx
       have hlt2 := hlow i y (by rw [List.getElem?_append_left hi2]; exact hy) e he hbd
       have := h2 e he hbd
       rw [push_get' (by omega)] at this
       exact hset _ this
      ·have hj' : b.getD j false = true := by simpa [Array.getD_eq_getD_getElem?, Array.getElem?_setIfInBounds_ne ej] using hj
       exact hset _ (hc j y hy hj' e he hbd)
def spl {α : Type} : List α → Option (List α × α)
 | [] => none
 | [a] => some ([], a)
 | a :: b :: r => match spl (b :: r) with
  | some (l, o) => some (a :: l, o)
  | none => none
theorem spl_eq {α : Type} : ∀ {L l : List α} {o : α}, spl L = some (l, o) → L = l ++ [o]
 | [], _, _, h => by simp [spl] at h
 | [a], l, o, h => by simp [spl] at h; obtain ⟨rfl, rfl⟩ := h; rfl
 | a :: b :: r, l, o, h => by
  simp only [spl] at h
  split at h
  ·rename_i l' o' he
   injection h with h; injection h with h1 h2; subst h1; subst h2
   rw [spl_eq he]; rfl
  ·cases h
theorem jdrawE [T : TyTab P] {id : Nat} {L l : List Oper} {o : Oper} {F : Fr} {H : List AObj} {k : Kt} (pl : List (Nat × K)) (hs : spl L = some (l, o)) (hp : pl.all (fun x => Nat.blt x.1 l.length) = true) (hc : drawOkT l (plan l pl) = true) (hl : lastOk l o = true)
  (next : J P G (Only fun F' H' => J P G Q (.l L.toArray [o] k) F' H') (.d l.toArray (plan l pl) .nil) F H) : J P G Q (.c (.region id L.toArray true) k) F H := by
 intro a w hst
 rw [spl_eq hs] at next ⊢
 have hst' : St G F H a { w with drawn := w.drawn + 1 } := by
  obtain ⟨β, hs⟩ := hst
  exact ⟨β, hs.world (hs.inv.same (drew_same w)) ((drew_same w).step β)⟩
 refine wpIn_region_any T.mixed ?_
 have h1 := drawn_any (Q := Only fun F' H' => J P G Q (.l (l ++ [o]).toArray [o] k) F' H') (plan_ops hp) hc next hst'
 have h2 := any_last (P := P) (G := G) (Q := post P G Q k) hl (Q1 := fun e F H => ∃ F0, FrEq F0 F ∧ Only (fun F' H' => J P G Q (.l (l ++ [o]).toArray [o] k) F' H') e F0 H) (fun e F H hne ⟨F0, _, h⟩ => by cases e <;> first | exact hne rfl | exact h.elim) (fun a w ⟨F', H', ⟨F0, h0, hj⟩, hs⟩ => ?_) l.toArray.size (Array.replicate l.toArray.size false) a _ (by simp) (fun i x hx hi => by
   exfalso
   have : i < l.length := (List.getElem?_eq_some_iff.1 hx).1
   simp [Array.getD_eq_getD_getElem?, this] at hi) h1
 ·have e1 : (l ++ [o]).toArray.size = l.toArray.size + 1 := by simp
  have e2 : Array.replicate ((l ++ [o]).toArray.size) false = (Array.replicate l.toArray.size false).push false := by rw [e1, Array.replicate_succ]
  rw [e2, e1]
  exact h2
 ·have hs0 := hs.eq (fun t => (h0 t).symm)
  have hgn : o.guard = none := by
   simp only [lastOk, Bool.and_eq_true, List.all_eq_true] at hl
   simpa using hl.1 o (by simp)
  obtain ⟨hd, hx⟩ := hj
  rcases hx with ⟨_, res, ho, hr⟩ | ⟨hg, _⟩
  ·exact op_wp hd ho hs0 fun r H' hres => by
    have := hr r H' hres
    cases r with
    | ret v => exact fun a w hs => ⟨_, _, this, hs⟩
    | pan v => exact this
  ·simp [guardA, hgn] at hg
theorem jat {F : Fr} {H : List AObj} {x : AExit} (h : Q x F H) : J P G Q (.e x .nil) F H := h
theorem jonly {K : Fr → List AObj → Prop} {F : Fr} {H : List AObj} (h : K F H) : J P G (Only K) (.e .normal .nil) F H := h
end
end Go.AL
end
section
namespace Go.AL
open Go
theorem Came.weak {ext : Nat → Prop} {w : World} {β : List Ent} {v v' : AVal} {H : List AObj} (hr : ∀ (c : Ctx) u, Rel c v u → Rel c v' u) {u : Value} {w' : World} (h : Came ext w β (one v H) .ret u w') : Came ext w β (one v' H) .ret u w' := by
 obtain ⟨x, H', β', ⟨h1, h2⟩, h3, h4, h5⟩ := h
 injection h1 with h1
 subst h1; subst h2
 exact ⟨v', H', β', ⟨rfl, rfl⟩, hr _ _ h3, h4, h5⟩
theorem Ended.weak {ext : Nat → Prop} {w : World} {β : List Ent} {v v' : AVal} {H : List AObj} (hr : ∀ (c : Ctx) u, Rel c v u → Rel c v' u) : ∀ {e : Ending} {w' : World}, Ended ext w β (one v H) e w' → Ended ext w β (one v' H) e w'
 | .returned u, w', h => Came.weak hr h
 | .panicked ch, w', ⟨u, h1, x, H', β', ⟨h2, _⟩, _⟩ => by cases h2
 | .outgrown, _, h => h.elim
theorem Upon.weak {P : Program} {ext : Nat → Prop} {w : World} {β : List Ent} {v v' : AVal} {H : List AObj} (hr : ∀ (c : Ctx) u, Rel c v u → Rel c v' u) : ∀ {r : Result Next}, Upon P ext w β (one v H) r → Upon P ext w β (one v' H) r := by
 intro r h
 unfold Upon at *
 split at h
 ·exact Came.weak hr h
 ·exact Came.weak hr h
 ·exact Calls.mono h fun e w'' he => Ended.weak hr he
 ·exact RoundIn.mono h fun e w'' he => Ended.weak hr he
 ·obtain ⟨x, H', β', ⟨h2, _⟩, _⟩ := h
  cases h2
 ·exact h.elim
theorem DSem.wkn {P : Program} {k : K} {o : Oper} {F : Fr} {H H1 : List AObj} {v v' : AVal} (hr : ∀ (c : Ctx) u, Rel c v u → Rel c v' u) (h : DSem P k o F H v H1) : DSem P k o F H v' H1 := by
 cases k with
 | p => exact ⟨h.1, fun H' ext w β ρ a b c d => (h.2 H' ext w β ρ a b c d).weak hr⟩
 | r => exact ⟨h.1, fun H' hb ext w β ρ a b c d => (h.2 H' hb ext w β ρ a b c d).weak hr⟩
 | s => exact ⟨h.1, fun ext w β ρ a b c d => (h.2 ext w β ρ a b c d).weak hr⟩
 | x => exact ⟨h.1, fun ext w β ρ a b c d => (h.2 ext w β ρ a b c d).weak hr⟩
 | m => exact fun ext w β ρ a b c d => (h ext w β ρ a b c d).weak hr
theorem jow {P : Program} {G : Gh} {Q : APost} {F F' : Fr} {H H' : List AObj} {s s' : Pt} {ops : Array Oper} {o : Oper} {kk : Option K} {kd : K} {v v' : AVal} (h : nextO s = some (ops, o, kk, s')) (hg : guardA ops F o = some true) (hd : DSem P kd o F H v H') (hr : ∀ (c : Ctx) u, Rel c v u → Rel c v' u) (hk : okK kd kk = true) (hp : putA G.n o.dst v' F = some F')
  (next : J P G Q s' F' H') : J P G Q s F H := jo h hg (hd.wkn hr) hk hp next
theorem jfin {P : Program} {G : Gh} {Q : APost} {F : Fr} {H H' : List AObj} {c : Code} {k : Kt} (n : Nat) (ts : List Nat) {vs vs' : List AVal} (wk : Bool) (hp : fproj F ts = some vs) (hf : finish n [] wk H (.tup vs) = some (.tup vs', H')) (hn : Nat.ble n H.length = true) (hβ : G.β0.length ≤ n)
  (h : J P G Q (.c c k) (ts.zip vs') H') : J P G Q (.c c k) F H := aw_fin (Q := post P G Q k) n ts wk hp hf hn hβ h
end Go.AL
end
section
namespace Go.AL
open Go
section
variable {P : Program}
def allIntR (tab : List TyRow) (st : TypeId → Bool) : Nat → TypeId → Bool
 | 0, _ => false
 | n + 1, t => match tfind tab t with
  | some r => (match r.d with
   | .int .i64 => Nat.beq r.size 1
   | .struct fs => !st t && fieldsRun tab (allIntR tab st n) r.size 0 fs.toList
   | .array k e => (match tfind tab e with
    | some re => Nat.beq r.size (k * re.size) && allIntR tab st n e
    | none => false)
   | _ => false)
  | none => false
theorem items_run [T : TyTab P] {d : Nat} {e : TypeId} {re : TyRow} (he : tfind T.tab e = some re) (hs : aggB re.d = false → re.size = 1)
  (IH : ∀ (xs ys : List Int) (w : World), xs.length = re.size → ys.length = re.size → (Op.equalIn d e (valI (aggB re.d) xs) (valI (aggB re.d) ys)).run P w = .ok (decide (xs = ys)) w)
  (xs ys : List Int) : ∀ (m off : Nat) (w : World), xs.length = (off + m) * re.size → ys.length = (off + m) * re.size →
   (Op.eqItems d e re.size (intsV xs).toArray (intsV ys).toArray (List.range' off m)).run P w = .ok (decide (xs.drop (off * re.size) = ys.drop (off * re.size))) w
 | 0, off, w, hx, hy => by
  simp only [Nat.add_zero] at hx hy
  simp only [List.range', Op.eqItems, Sem.run_pure]
  rw [List.drop_of_length_le (by omega), List.drop_of_length_le (by omega)]
  simp
 | m + 1, off, w, hx, hy => by
  have hle : off * re.size + re.size ≤ (off + (m + 1)) * re.size := by
   rw [← Nat.succ_mul]
   exact Nat.mul_le_mul_right _ (by omega)
  have p1 := part_ints (P := P) he (xs := xs) (off := off * re.size) (by omega) hs w
  have p2 := part_ints (P := P) he (xs := ys) (off := off * re.size) (by omega) hs w
  have ee := IH ((xs.drop (off * re.size)).take re.size) ((ys.drop (off * re.size)).take re.size) w (by simp; omega) (by simp; omega)
  have hr := items_run (d := d) he hs IH xs ys m (off + 1) w (by rw [hx]; congr 1; omega) (by rw [hy]; congr 1; omega)
  simp only [List.range', Op.eqItems, Sem.run_bind, p1, p2, Result.andThen_ok, ee]
  have hsp := drop_split xs ys (off * re.size) re.size
  rw [← Nat.succ_mul] at hsp
  by_cases hq : (xs.drop (off * re.size)).take re.size = (ys.drop (off * re.size)).take re.size
  ·simp only [hq, decide_true, Bool.not_true, Bool.false_eq_true, if_false]
   rw [hr]
   congr 1
   simp only [hq, true_and] at hsp
   exact decide_eq_decide.2 hsp.symm
  ·have : ¬ (xs.drop (off * re.size) = ys.drop (off * re.size)) := fun h => hq (by rw [h])
   simp [hq, this]
theorem allIntR_run [T : TyTab P] : ∀ (n d : Nat) (t : TypeId) (r : TyRow), n ≤ d → allIntR T.tab P.stoodInHeld n t = true → tfind T.tab t = some r → (aggB r.d = false → r.size = 1) ∧
  ∀ (xs ys : List Int) (w : World), xs.length = r.size → ys.length = r.size → (Op.equalIn d t (valI (aggB r.d) xs) (valI (aggB r.d) ys)).run P w = .ok (decide (xs = ys)) w
 | 0, d, t, r, _, h, _ => by cases h
 | n + 1, 0, t, r, hd, _, _ => absurd hd (by omega)
 | n + 1, d + 1, t, r, hd, h, ht => by
  simp only [allIntR, ht] at h
  split at h
  ·rename_i hk
   have h1 := Nat.eq_of_beq_eq_true h
   refine ⟨fun _ => h1, fun xs ys w hx hy => ?_⟩
   rw [h1] at hx hy
   obtain ⟨x, rfl⟩ := List.length_eq_one_iff.1 hx
   obtain ⟨y, rfl⟩ := List.length_eq_one_iff.1 hy
   have hu : P.underlying t = some (.int .i64) := by rw [ty_und ht, hk]
   rw [hk]
   show (Op.equalIn (d + 1) t (.int .i64 x) (.int .i64 y)).run P w = _
   rw [run_equalIn_int w d t .i64 .i64 x y hu]
   congr 1
   simp
   rfl
  ·rename_i fs hk
   simp only [Bool.and_eq_true, Bool.not_eq_true'] at h
   obtain ⟨h1, h2⟩ := h
   have hu : P.underlying t = some (.struct fs) := by rw [ty_und ht, hk]
   have hfo : P.fieldsOf t = fs := by simp [Program.fieldsOf, hu]
   rw [hk]
   refine ⟨(fun h => by cases h), fun xs ys w hx hy => ?_⟩
   show (Op.equalIn (d + 1) t (.agg (intsV xs).toArray) (.agg (intsV ys).toArray)).run P w = _
   rw [run_equalIn_struct w d t _ _ (by rw [hfo]; exact hu) h1, hfo]
   have key : ∀ (gs : List Field) (off : Nat) (w : World), fieldsRun T.tab (allIntR T.tab P.stoodInHeld n) r.size off gs = true →
     (Op.eqFields d (intsV xs).toArray (intsV ys).toArray gs).run P w = .ok (decide (xs.drop off = ys.drop off)) w := by
    intro gs
    induction gs with
    | nil =>
     intro off w hg
     have := Nat.eq_of_beq_eq_true hg
     simp only [Op.eqFields, Sem.run_pure]
     rw [List.drop_of_length_le (by omega), List.drop_of_length_le (by omega)]
     simp
    | cons f gs ih =>
     intro off w hg
     have hle := fieldsRun_le hg
     simp only [fieldsRun, Bool.and_eq_true] at hg
     obtain ⟨⟨⟨g1, g2⟩, g3⟩, g4⟩ := hg
     split at g4
     ·rename_i rf hrf
      have hle2 := fieldsRun_le g4
      have g1 := Nat.eq_of_beq_eq_true g1
      have g2 := of_decide_eq_true g2
      obtain ⟨a1, a2⟩ := allIntR_run n d f.type rf (by omega) g3 hrf
      have p1 := part_ints (P := P) hrf (xs := xs) (off := off) (by omega) a1 w
      have p2 := part_ints (P := P) hrf (xs := ys) (off := off) (by omega) a1 w
      have e := a2 ((xs.drop off).take rf.size) ((ys.drop off).take rf.size) w (by simp; omega) (by simp; omega)
      simp only [Op.eqFields, g2, ne_eq, not_false_eq_true, if_true, Sem.run_bind, g1, p1, p2, Result.andThen_ok, e]
      by_cases hq : (xs.drop off).take rf.size = (ys.drop off).take rf.size
      ·simp only [hq, decide_true, Bool.not_true, Bool.false_eq_true, if_false]
       rw [ih _ w g4]
       congr 1
       have := drop_split xs ys off rf.size
       simp only [hq, true_and] at this
       exact decide_eq_decide.2 this.symm
      ·have : ¬ (xs.drop off = ys.drop off) := fun h => hq (by rw [h])
       simp [hq, this]
     ·cases g4
   have := key fs.toList 0 w h2
   simpa using this
  ·rename_i k e hk
   split at h
   ·rename_i re hre
    simp only [Bool.and_eq_true] at h
    have h1 := Nat.eq_of_beq_eq_true h.1
    obtain ⟨a1, a2⟩ := allIntR_run n d e re (by omega) h.2 hre
    have hu : P.underlying t = some (.array k e) := by rw [ty_und ht, hk]
    obtain ⟨i, i1, i2, i3, i4⟩ := ty_info hre
    have hcs : P.cellsOf e = re.size := by simp [Program.cellsOf, i1, i3]
    rw [hk]
    refine ⟨(fun h => by cases h), fun xs ys w hx hy => ?_⟩
    show (Op.equalIn (d + 1) t (.agg (intsV xs).toArray) (.agg (intsV ys).toArray)).run P w = _
    rw [run_equalIn_array w d _ _ hu i1, hcs, List.range_eq_range']
    have := items_run (P := P) (d := d) hre a1 a2 xs ys k 0 w (by rw [hx, h1, Nat.zero_add]) (by rw [hy, h1, Nat.zero_add])
    simpa using this
   ·cases h
  ·cases h
theorem eq_intsR [T : TyTab P] {dst : Option Tmp} {op : BinOp} {t yt : TypeId} {x y : Operand} {type : TypeId} {pos : String} {after : Array Edge} {guard : Option (Nat × Bool)} {F : Fr} {H : List AObj} {xs ys : List Int} {r : TyRow}
  (hop : op = .eql ∨ op = .neq) (hx : ev F x = some (.agg (intsA xs))) (hy : ev F y = some (.agg (intsA ys))) (ht : tfind T.tab t = some r) (hlx : xs.length = r.size) (hly : ys.length = r.size) (ha : aggB r.d = true)
  (hi : allIntR T.tab P.stoodInHeld 100 t = true) (hg : P.eqGuardType P.depth t = false) :
  DSem P .p ⟨dst, .binOp op t x y yt, type, pos, after, guard⟩ F H (.v (.bool (if op = .eql then decide (xs = ys) else !decide (xs = ys)))) H := by
 refine ⟨rfl, fun H' => ?_⟩
 intro ext w β ρ hI hext hκ hρ
 obtain ⟨a, e1, r1⟩ := hρ x (by simp [Op.operands]) _ hx
 obtain ⟨b, e2, r2⟩ := hρ y (by simp [Op.operands]) _ hy
 have h1 : a = (intsV xs).toArray := by apply Array.ext'; simpa using intsA_rel r1
 have h2 : b = (intsV ys).toArray := by apply Array.ext'; simpa using intsA_rel r2
 subst h1; subst h2
 have h3 := (allIntR_run (P := P) 100 10000 t r (by omega) hi ht).2 xs ys w hlx hly
 rw [ha] at h3
 have h3' : (Op.equal t (.agg (intsV xs).toArray) (.agg (intsV ys).toArray)).run P w = .ok (decide (xs = ys)) w := h3
 have h4 : (execOp ρ ⟨dst, .binOp op t x y yt, type, pos, after, guard⟩).run P w = .ok (.value (.bool (if op = .eql then decide (xs = ys) else !decide (xs = ys)))) w := by
  rcases hop with rfl | rfl
  ·simp [execOp, e1, e2, eqGuard, hg, binOp, h3']
  ·simp [execOp, e1, e2, eqGuard, hg, binOp, h3']
 rw [h4]
 exact came_same hI rfl
end
end Go.AL
end
section
namespace Go.AL
open Go
theorem relL_put {c : Ctx} {y : AVal} {u : Value} : ∀ {cs : List AVal} {us : List Value} {n : Nat}, us[n]? = some u → Rel c y u → RelL c cs us → RelL c (cs.set n y) us
 | [], us, n, hu, hr, h => by simp only [RelL] at h; subst h; simp at hu
 | a :: cs, us, 0, hu, hr, ⟨v, us', e, r, rs⟩ => by
  subst e
  simp at hu; subst hu
  exact ⟨v, us', rfl, hr, rs⟩
 | a :: cs, us, n + 1, hu, hr, ⟨v, us', e, r, rs⟩ => by
  subst e
  exact ⟨v, us', rfl, r, relL_put (by simpa using hu) hr rs⟩
theorem one_set {cs : List AVal} {n : Nat} {y : AVal} (h : cs.all AVal.one = true) (hy : y.one = true) : (cs.set n y).all AVal.one = true := by
 rw [List.all_eq_true] at *
 intro x hx
 rcases List.mem_or_eq_of_mem_set hx with hx | rfl
 ·exact h x hx
 ·exact hy
theorem aw_publishB {P : Program} {G : Gh} {Q : APost} {c : Code} {F : Fr} {H : List AObj} (j i a : Nat) {bt ty : TypeId} {cs : List AVal} {g es : Nat} {xs : List AVal} (hja : j ≠ a) (hj : H[j]? = some (.box ty cs)) (hi : cs[i]? = some (.arr a g)) (ha : H[a]? = some (.arr g bt es xs))
  (h : AW P G c Q F ((H.set a (.dead (g + 1))).set j (.box ty (cs.set i (.sl xs))))) : AW P G c Q F H := by
 rintro aa w ⟨β, hs⟩
 have hjl : j < β.length := by rw [hs.inv.len]; exact (List.getElem?_eq_some_iff.1 hj).1
 have hej : β[j]? = some β[j] := List.getElem?_eq_getElem hjl
 obtain ⟨g1, g2, b, us, g3, g4, g5⟩ := hs.inv.obj j _ _ hj hej
 obtain ⟨u, hu, hr⟩ := g5.get hi
 obtain ⟨ent, e1, e2, e3, e4, e5, e6, e7⟩ := arr_open hs.inv ha hr
 have hal := (List.getElem?_eq_some_iff.1 e1).1
 have hst : Step w β w (β.set a ⟨none, g + 1, es, 0, 0⟩) := Step.regen e1 (by omega) (by simp only; omega) (.inl rfl)
 have hinv := hs.inv.set hs.extOk e1 hst (fun c hc _ => rfl) (.inr (.inl rfl)) (a := .dead (g + 1)) ⟨rfl, by omega, rfl⟩
 have hs1 := hs.world hinv hst
 have hrel : Rel (ctx G.ext w (β.set a ⟨none, g + 1, es, 0, 0⟩)) (.sl xs) u := by
  rcases e7 with ⟨_, h8, _, A, h9⟩ | ⟨b', us', h8, h9, h10, h11, h12⟩
  ·subst h8
   exact ⟨A, 0, 0, h9, Nat.le_refl _, fun hx => absurd rfl hx, trivial⟩
  ·refine ⟨_, ent.cap, es, h9, e6, fun _ => ⟨b', 0, rfl, ?_, (hs.inv.sep b' ⟨a, ent, e1, h8⟩).2⟩, ?_⟩
   ·rintro (hb | ⟨k, q, hq, hqb⟩)
    ·exact (hs.inv.sep b' ⟨a, ent, e1, h8⟩).1 hb
    ·by_cases hka : k = a
     ·subst hka
      rw [List.getElem?_set_self hal] at hq
      injection hq with hq; subst hq; cases hqb
     ·rw [List.getElem?_set_ne (by omega)] at hq
      exact hka (hs.inv.uniq k a q ent b' hq e1 hqb h8)
   ·have : rdA w (some ⟨b', 0, none⟩) = fun (i : Nat) => us'[i]? := by
     funext i
     simp [rdA, World.cell?, h10]
    show RelR _ es (rdA w (some ⟨b', 0, none⟩)) 0 xs
    rw [this]
    exact h12.le (hst.le (ext := G.ext)).bare _ _ _ _
 refine h aa w ⟨β.set a ⟨none, g + 1, es, 0, 0⟩, hs1.world ?_ (Step.refl _ _)⟩
 refine ⟨hinv.len.trans (by simp), fun k o e hk he => ?_, hinv.uniq, hinv.sep⟩
 by_cases hkj : k = j
 ·subst hkj
  have hlt : k < (H.set a (.dead (g + 1))).length := by rw [List.length_set]; exact (List.getElem?_eq_some_iff.1 hj).1
  rw [List.getElem?_set_self hlt] at hk
  injection hk with hk; subst hk
  have hj2 : (H.set a (.dead (g + 1)))[k]? = some (.box ty cs) := by rw [List.getElem?_set_ne (by omega)]; exact hj
  obtain ⟨q1, q2, b2, us2, q3, q4, q5⟩ := hinv.obj k _ e hj2 he
  have he2 : e = β[k] := by
   rw [List.getElem?_set_ne (by omega), hej] at he
   injection he with he; exact he.symm
  rw [he2, g3] at q3
  injection q3 with q3
  subst q3
  have q4' : w.heap[b]? = some (.cells us2 ty (0, 0)) := q4
  have g4' : w.heap[b]? = some (.cells us ty (0, 0)) := g4
  rw [g4'] at q4'
  injection q4' with q4'
  injection q4' with q4' _ _
  subst q4'
  exact ⟨q1, one_set q2 rfl, b, us, by rw [he2]; exact g3, g4, relL_put (by simpa using hu) hrel q5⟩
 ·rw [List.getElem?_set_ne (by omega)] at hk
  exact hinv.obj k o e hk he
theorem jpubB {P : Program} {G : Gh} {Q : APost} {F : Fr} {H H1 H2 : List AObj} {k : Kt} {c : Code} (j i a : Nat) {bt ty : TypeId} {cs cs' : List AVal} {g es : Nat} {xs : List AVal} (hja : Nat.beq j a = false) (hj : H[j]? = some (.box ty cs)) (hi : cs[i]? = some (.arr a g)) (ha : H[a]? = some (.arr g bt es xs))
  (hc : spine (cs.set i (.sl xs)) = some cs') (h1 : hsetO H a (.dead (g + 1)) = some H1) (h2 : hsetO H1 j (.box ty cs') = some H2) (h : J P G Q (.c c k) F H2) : J P G Q (.c c k) F H := by
 refine aw_publishB (Q := post P G Q k) j i a (fun e => ?_) hj hi ha ?_
 ·subst e
  rw [show Nat.beq j j = true from Nat.beq_refl j] at hja
  cases hja
 ·rw [hsetO_eq h2, hsetO_eq h1, spine_eq hc] at h
  exact h
end Go.AL
end
section
namespace Go.AL
open Go
section
variable {P : Program}
theorem index_pp [T : TyTab P] {dst : Option Tmp} {t : TypeId} {x i : Operand} {type : TypeId} {pos : String} {after : Array Edge} {guard : Option (Nat × Bool)} {F : Fr} {H : List AObj} {cs : List AVal} {off : Nat} {k : IntKind} {n : Int} {e : TypeId} {len : Nat} {r r' : TyRow}
  (hx : ev F x = some (.pp cs off)) (hi : ev F i = some (.v (.int k n))) (ht : tfind T.tab t = some r') (hd : r'.d = .array len e) (he : tfind T.tab e = some r)
  (h0 : 0 ≤ n) (hn : n < len) : DSem P .p ⟨dst, .indexAddr t x i, type, pos, after, guard⟩ F H (.pp cs (off + n.toNat * r.size)) H := by
 refine ⟨rfl, fun H' => ?_⟩
 intro ext w β ρ hI hext hκ hρ
 obtain ⟨b, o, us, hu, h1, h2, h3, h4⟩ := hρ x (by simp [Op.operands]) _ hx
 have hni : ρ i = .int k n := hρ i (by simp [Op.operands]) _ hi
 have h5 : (execOp ρ ⟨dst, .indexAddr t x i, type, pos, after, guard⟩).run P w = .ok (.value (.pointer (some ⟨b, o + off + n.toNat * r.size, none⟩))) w := by
  have hcond : 0 ≤ n ∧ n < (len : Int) := ⟨h0, hn⟩
  simp only [execOp, Instr.indexAt, Sem.run_bind, hni, hu, asIntOf, Sem.run_pure, Result.andThen_ok, run_und ht, hd, Instr.sureAddr, if_pos hcond, run_size he, addr_add]
 rw [h5]
 exact came_same hI ⟨b, o, us, by rw [Nat.add_assoc], h1, h2, h3, h4⟩
end
end Go.AL
end
section
namespace Go.AL
open Go
section
variable {P : Program} {G : Gh} {Q : APost} {F F' : Fr} {H H' : List AObj} {k : Kt}
theorem jS [T : TyTab P] {s s' : Pt} (next : J P G Q s' F' H') (h : stp T.tab G.n F H s = some (s', F', H') := by exact rfl) : J P G Q s F H := js h next
theorem jD [T : TyTab P] {id : Nat} {l : List Oper} (next : J P G Q (.d l.toArray (plan0 0 l) k) F H) (hc : drawOk l (plan0 0 l) = true := by kernel_rfl) : J P G Q (.c (.region id l.toArray true) k) F H := jdraw hc next
theorem jB [T : TyTab P] {s s' : Pt} {ops : Array Oper} {dst : Option Tmp} {o : Op} {type : TypeId} {pos : String} {after : Array Edge} {guard : Option (Nat × Bool)} {kk : Option K} {v : AVal} (next : J P G Q s' F' H)
  (h : nextO s = some (ops, ⟨dst, o, type, pos, after, guard⟩, kk, s') := by exact rfl) (hb : buildB T.tab o F = some v := by exact rfl) (hg : guardA ops F ⟨dst, o, type, pos, after, guard⟩ = some true := by exact rfl) (hp : putA G.n dst v F = some F' := by exact rfl) : J P G Q s F H := jbu h hb hg hp next
theorem jV {f : FuncId} {args : List AVal} {v : AVal} (hc : ACalls P f args [] (one v [])) {s s' : Pt} {ops : Array Oper} {dst : Option Tmp} {o : Op} {type : TypeId} {pos : String} {after : Array Edge} {guard : Option (Nat × Bool)} {kk : Option K} (next : J P G Q s' F' H)
  (h : nextO s = some (ops, ⟨dst, o, type, pos, after, guard⟩, kk, s') := by exact rfl) (ho : callO F o = some (f, args) := by exact rfl) (hg : guardA ops F ⟨dst, o, type, pos, after, guard⟩ = some true := by exact rfl) (hl : (ltL 0 args && ltV 0 v) = true := by exact rfl) (hp : putA G.n dst v F = some F' := by exact rfl) : J P G Q s F H :=
 jv hc h ho hg hl hp next
theorem jR {tab : List TyRow} {rs : List ResultVar} {n : Nat} {r r' v : AVal} {Hv : List AObj} (h1 : resA tab rs F H = some r := by exact rfl) (h3 : finish n [] true H r = some (r', H') := by exact rfl) (h4 : r' = v := by exact rfl) (h5 : H' = Hv := by exact rfl) : J P G (BodyQ tab rs n (one v Hv)) (.e .ret .nil) F H := jr h1 h3 h4 h5
end
end Go.AL
end
section
namespace Go.AL
open Go Go.Proofs
set_option maxRecDepth 100000
def ty2 : TyRow := ⟨2, .int .i64, .int .i64 0, 1, 8⟩
def ty3 : TyRow := ⟨3, .int .i64, .int .i64 0, 1, 8⟩
def ty9 : TyRow := ⟨9, .string, .string .empty, 1, 16⟩
def ty53 : TyRow := ⟨53, .struct #[⟨"Pc", 3, 0, false, "", "", 0⟩, ⟨"Regs", 50, 1, false, "", "", 8⟩, ⟨"Frames", 51, 9, false, "", "", 72⟩, ⟨"State", 3, 10, false, "", "", 96⟩, ⟨"Fault", 34, 11, false, "", "", 104⟩, ⟨"Left", 23, 12, false, "", "", 112⟩], .agg #[.int .i64 0, .int .i64 0, .int .i64 0, .int .i64 0, .int .i64 0, .int .i64 0, .int .i64 0, .int .i64 0, .int .i64 0, .slice none 0 0, .int .i64 0, .int .i64 0, .slice none 0 0], 13, 136⟩
def ty59 : TyRow := ⟨59, .struct #[⟨"Kind", 3, 0, false, "", "", 0⟩, ⟨"Thread", 3, 1, false, "", "", 8⟩, ⟨"Words", 57, 2, false, "", "", 16⟩], .agg #[.int .i64 0, .int .i64 0, .int .i64 0, .int .i64 0, .int .i64 0, .int .i64 0], 6, 48⟩
def ty98 : TyRow := ⟨98, .struct #[⟨"Op", 3, 0, false, "", "", 0⟩, ⟨"A", 3, 1, false, "", "", 8⟩, ⟨"B", 3, 2, false, "", "", 16⟩, ⟨"C", 3, 3, false, "", "", 24⟩], .agg #[.int .i64 0, .int .i64 0, .int .i64 0, .int .i64 0], 4, 32⟩
def ty168 : TyRow := ⟨168, .struct #[⟨"Back", 3, 0, false, "", "", 0⟩, ⟨"Kept", 57, 1, false, "", "", 8⟩], .agg #[.int .i64 0, .int .i64 0, .int .i64 0, .int .i64 0, .int .i64 0], 5, 40⟩
def ty170 : TyRow := ⟨170, .slice 224, .slice none 0 0, 1, 24⟩
def ty198 : TyRow := ⟨198, .struct #[⟨"name", 9, 0, false, "", "respite/asm", 0⟩, ⟨"kinds", 9, 1, false, "", "respite/asm", 16⟩], .agg #[.string .empty, .string .empty], 2, 32⟩
def ty224 : TyRow := ⟨224, .struct #[⟨"At", 3, 0, false, "", "", 0⟩, ⟨"Value", 3, 1, false, "", "", 8⟩], .agg #[.int .i64 0, .int .i64 0], 2, 16⟩
def ty261 : TyRow := ⟨261, .struct #[⟨"why", 34, 0, false, "", "respite/step", 0⟩], .agg #[.int .i64 0], 1, 8⟩
def tyRows : List TyRow := [ty2,
 ty3,
 ⟨4, .bool, .bool false, 1, 1⟩,
 ⟨5, .int .u8, .int .u8 0, 1, 1⟩,
 ⟨6, .int .u8, .int .u8 0, 1, 1⟩,
 ty9,
 ⟨10, .string, .string .empty, 1, 16⟩,
 ⟨11, .string, .string .empty, 1, 16⟩,
 ⟨12, .int .u64, .int .u64 0, 1, 8⟩,
 ⟨15, .pointer 349, .pointer none, 1, 8⟩,
 ⟨16, .pointer 352, .pointer none, 1, 8⟩,
 ⟨17, .pointer 359, .pointer none, 1, 8⟩,
 ⟨20, .interface #[], .nilIface, 1, 16⟩,
 ⟨21, .int .i32, .int .i32 0, 1, 4⟩,
 ⟨22, .slice 9, .slice none 0 0, 1, 24⟩,
 ⟨23, .slice 3, .slice none 0 0, 1, 24⟩,
 ⟨24, .struct #[⟨"Words", 23, 0, false, "", "", 0⟩, ⟨"Tags", 23, 1, false, "", "", 24⟩], .agg #[.slice none 0 0, .slice none 0 0], 2, 48⟩,
 ⟨25, .struct #[⟨"Words", 23, 0, false, "", "", 0⟩, ⟨"Tags", 23, 1, false, "", "", 24⟩], .agg #[.slice none 0 0, .slice none 0 0], 2, 48⟩,
 ⟨26, .slice 98, .slice none 0 0, 1, 24⟩,
 ⟨27, .slice 170, .slice none 0 0, 1, 24⟩,
 ⟨28, .struct #[⟨"Memory", 25, 0, false, "", "", 0⟩, ⟨"Depth", 3, 2, false, "", "", 48⟩, ⟨"Buffers", 27, 3, false, "", "", 56⟩], .agg #[.slice none 0 0, .slice none 0 0, .int .i64 0, .slice none 0 0], 4, 80⟩,
 ⟨29, .struct #[⟨"Memory", 25, 0, false, "", "", 0⟩, ⟨"Depth", 3, 2, false, "", "", 48⟩, ⟨"Buffers", 27, 3, false, "", "", 56⟩], .agg #[.slice none 0 0, .slice none 0 0, .int .i64 0, .slice none 0 0], 4, 80⟩,
 ⟨30, .slice 53, .slice none 0 0, 1, 24⟩,
 ⟨31, .slice 59, .slice none 0 0, 1, 24⟩,
 ⟨32, .struct #[⟨"Code", 26, 0, false, "", "", 0⟩, ⟨"Tso", 29, 1, false, "", "", 24⟩, ⟨"Threads", 30, 5, false, "", "", 104⟩, ⟨"Events", 31, 6, false, "", "", 128⟩], .agg #[.slice none 0 0, .slice none 0 0, .slice none 0 0, .int .i64 0, .slice none 0 0, .slice none 0 0, .slice none 0 0], 7, 152⟩,
 ⟨33, .struct #[⟨"Code", 26, 0, false, "", "", 0⟩, ⟨"Tso", 29, 1, false, "", "", 24⟩, ⟨"Threads", 30, 5, false, "", "", 104⟩, ⟨"Events", 31, 6, false, "", "", 128⟩], .agg #[.slice none 0 0, .slice none 0 0, .slice none 0 0, .int .i64 0, .slice none 0 0, .slice none 0 0, .slice none 0 0], 7, 152⟩,
 ⟨34, .int .i64, .int .i64 0, 1, 8⟩,
 ⟨46, .slice 56, .slice none 0 0, 1, 24⟩,
 ⟨50, .array 8 3, .agg #[.int .i64 0, .int .i64 0, .int .i64 0, .int .i64 0, .int .i64 0, .int .i64 0, .int .i64 0, .int .i64 0], 8, 64⟩,
 ⟨51, .slice 168, .slice none 0 0, 1, 24⟩,
 ⟨52, .struct #[⟨"Pc", 3, 0, false, "", "", 0⟩, ⟨"Regs", 50, 1, false, "", "", 8⟩, ⟨"Frames", 51, 9, false, "", "", 72⟩, ⟨"State", 3, 10, false, "", "", 96⟩, ⟨"Fault", 34, 11, false, "", "", 104⟩, ⟨"Left", 23, 12, false, "", "", 112⟩], .agg #[.int .i64 0, .int .i64 0, .int .i64 0, .int .i64 0, .int .i64 0, .int .i64 0, .int .i64 0, .int .i64 0, .int .i64 0, .slice none 0 0, .int .i64 0, .int .i64 0, .slice none 0 0], 13, 136⟩,
 ty53,
 ⟨55, .struct #[⟨"Key", 3, 0, false, "", "", 0⟩, ⟨"Value", 3, 1, false, "", "", 8⟩], .agg #[.int .i64 0, .int .i64 0], 2, 16⟩,
 ⟨56, .struct #[⟨"Key", 3, 0, false, "", "", 0⟩, ⟨"Value", 3, 1, false, "", "", 8⟩], .agg #[.int .i64 0, .int .i64 0], 2, 16⟩,
 ⟨57, .array 4 3, .agg #[.int .i64 0, .int .i64 0, .int .i64 0, .int .i64 0], 4, 32⟩,
 ⟨58, .struct #[⟨"Kind", 3, 0, false, "", "", 0⟩, ⟨"Thread", 3, 1, false, "", "", 8⟩, ⟨"Words", 57, 2, false, "", "", 16⟩], .agg #[.int .i64 0, .int .i64 0, .int .i64 0, .int .i64 0, .int .i64 0, .int .i64 0], 6, 48⟩,
 ty59,
 ⟨64, .func #[46, 23, 3] #[33] false, .nilFunc, 1, 8⟩,
 ⟨71, .slice 127, .slice none 0 0, 1, 24⟩,
 ⟨86, .interface #[("Error", 61)], .nilIface, 1, 16⟩,
 ⟨87, .interface #[("Error", 61)], .nilIface, 1, 16⟩,
 ⟨90, .struct #[⟨"label", 9, 0, false, "", "respite/sched", 0⟩], .agg #[.string .empty], 1, 16⟩,
 ⟨91, .struct #[⟨"label", 9, 0, false, "", "respite/sched", 0⟩], .agg #[.string .empty], 1, 16⟩,
 ⟨93, .pointer 91, .pointer none, 1, 8⟩,
 ⟨97, .struct #[⟨"Op", 3, 0, false, "", "", 0⟩, ⟨"A", 3, 1, false, "", "", 8⟩, ⟨"B", 3, 2, false, "", "", 16⟩, ⟨"C", 3, 3, false, "", "", 24⟩], .agg #[.int .i64 0, .int .i64 0, .int .i64 0, .int .i64 0], 4, 32⟩,
 ty98,
 ⟨108, .pointer 111, .pointer none, 1, 8⟩,
 ⟨109, .slice 5, .slice none 0 0, 1, 24⟩,
 ⟨110, .struct #[⟨"addr", 108, 0, false, "", "strings", 0⟩, ⟨"buf", 109, 1, false, "", "strings", 8⟩], .agg #[.pointer none, .slice none 0 0], 2, 32⟩,
 ⟨111, .struct #[⟨"addr", 108, 0, false, "", "strings", 0⟩, ⟨"buf", 109, 1, false, "", "strings", 8⟩], .agg #[.pointer none, .slice none 0 0], 2, 32⟩,
 ⟨117, .pointer 119, .pointer none, 1, 8⟩,
 ⟨118, .struct #[⟨"w", 33, 0, false, "", "respite/sched", 0⟩, ⟨"done", 3, 7, false, "", "respite/sched", 152⟩], .agg #[.slice none 0 0, .slice none 0 0, .slice none 0 0, .int .i64 0, .slice none 0 0, .slice none 0 0, .slice none 0 0, .int .i64 0], 8, 160⟩,
 ⟨119, .struct #[⟨"w", 33, 0, false, "", "respite/sched", 0⟩, ⟨"done", 3, 7, false, "", "respite/sched", 152⟩], .agg #[.slice none 0 0, .slice none 0 0, .slice none 0 0, .int .i64 0, .slice none 0 0, .slice none 0 0, .slice none 0 0, .int .i64 0], 8, 160⟩,
 ⟨120, .func #[3] #[4] false, .nilFunc, 1, 8⟩,
 ⟨126, .struct #[⟨"Kind", 3, 0, false, "", "", 0⟩, ⟨"Thread", 3, 1, false, "", "", 8⟩], .agg #[.int .i64 0, .int .i64 0], 2, 16⟩,
 ⟨127, .struct #[⟨"Kind", 3, 0, false, "", "", 0⟩, ⟨"Thread", 3, 1, false, "", "", 8⟩], .agg #[.int .i64 0, .int .i64 0], 2, 16⟩,
 ⟨131, .pointer 133, .pointer none, 1, 8⟩,
 ⟨132, .struct #[⟨"Memory", 25, 0, true, "", "", 0⟩, ⟨"bad", 34, 2, false, "", "respite/chain", 48⟩], .agg #[.slice none 0 0, .slice none 0 0, .int .i64 0], 3, 56⟩,
 ⟨133, .struct #[⟨"Memory", 25, 0, true, "", "", 0⟩, ⟨"bad", 34, 2, false, "", "respite/chain", 48⟩], .agg #[.slice none 0 0, .slice none 0 0, .int .i64 0], 3, 56⟩,
 ⟨138, .array 3 3, .agg #[.int .i64 0, .int .i64 0, .int .i64 0], 3, 24⟩,
 ⟨139, .map 9 3, .map none, 1, 8⟩,
 ⟨141, .map 5 192, .map none, 1, 8⟩,
 ⟨150, .int .u64, .int .u64 0, 1, 8⟩,
 ⟨154, .interface #[("AssignableTo", 159), ("Comparable", 42), ("Elem", 156), ("Implements", 159), ("Kind", 158), ("Name", 61), ("PkgPath", 61), ("Size", 360), ("String", 61), ("internal/reflectlite.common", 353), ("internal/reflectlite.uncommon", 361)], .nilIface, 1, 16⟩,
 ⟨155, .interface #[("AssignableTo", 159), ("Comparable", 42), ("Elem", 156), ("Implements", 159), ("Kind", 158), ("Name", 61), ("PkgPath", 61), ("Size", 360), ("String", 61), ("internal/reflectlite.common", 353), ("internal/reflectlite.uncommon", 361)], .nilIface, 1, 16⟩,
 ⟨157, .int .u8, .int .u8 0, 1, 1⟩,
 ⟨167, .struct #[⟨"Back", 3, 0, false, "", "", 0⟩, ⟨"Kept", 57, 1, false, "", "", 8⟩], .agg #[.int .i64 0, .int .i64 0, .int .i64 0, .int .i64 0, .int .i64 0], 5, 40⟩,
 ty168,
 ty170,
 ⟨172, .map 3 3, .map none, 1, 8⟩,
 ⟨173, .pointer 5, .pointer none, 1, 8⟩,
 ⟨185, .array 2 120, .agg #[.nilFunc, .nilFunc], 2, 16⟩,
 ⟨192, .func #[9] #[3, 34] false, .nilFunc, 1, 8⟩,
 ⟨197, .struct #[⟨"name", 9, 0, false, "", "respite/asm", 0⟩, ⟨"kinds", 9, 1, false, "", "respite/asm", 16⟩], .agg #[.string .empty, .string .empty], 2, 32⟩,
 ty198,
 ⟨199, .array 27 198, .agg #[.string .empty, .string .empty, .string .empty, .string .empty, .string .empty, .string .empty, .string .empty, .string .empty, .string .empty, .string .empty, .string .empty, .string .empty, .string .empty, .string .empty, .string .empty, .string .empty, .string .empty, .string .empty, .string .empty, .string .empty, .string .empty, .string .empty, .string .empty, .string .empty, .string .empty, .string .empty, .string .empty, .string .empty, .string .empty, .string .empty, .string .empty, .string .empty, .string .empty, .string .empty, .string .empty, .string .empty, .string .empty, .string .empty, .string .empty, .string .empty, .string .empty, .string .empty, .string .empty, .string .empty, .string .empty, .string .empty, .string .empty, .string .empty, .string .empty, .string .empty, .string .empty, .string .empty, .string .empty, .string .empty], 54, 864⟩,
 ⟨203, .slice 198, .slice none 0 0, 1, 24⟩,
 ⟨205, .struct #[⟨"Type", 17, 0, true, "", "", 0⟩], .agg #[.pointer none], 1, 8⟩,
 ⟨206, .struct #[⟨"Type", 17, 0, true, "", "", 0⟩], .agg #[.pointer none], 1, 8⟩,
 ⟨207, .pointer 363, .pointer none, 1, 8⟩,
 ⟨211, .interface #[("As", 213)], .nilIface, 1, 16⟩,
 ⟨214, .interface #[("Unwrap", 215)], .nilIface, 1, 16⟩,
 ⟨216, .interface #[("Unwrap", 218)], .nilIface, 1, 16⟩,
 ⟨217, .slice 87, .slice none 0 0, 1, 24⟩,
 ⟨220, .func #[98] #[4] false, .nilFunc, 1, 8⟩,
 ⟨223, .struct #[⟨"At", 3, 0, false, "", "", 0⟩, ⟨"Value", 3, 1, false, "", "", 8⟩], .agg #[.int .i64 0, .int .i64 0], 2, 16⟩,
 ty224,
 ⟨233, .pointer 238, .pointer none, 1, 8⟩,
 ⟨237, .struct #[⟨"World", 33, 0, true, "", "", 0⟩, ⟨"who", 3, 7, false, "", "respite/step", 152⟩, ⟨"own", 53, 8, false, "", "respite/step", 160⟩, ⟨"Instr", 98, 21, true, "", "", 296⟩], .agg #[.slice none 0 0, .slice none 0 0, .slice none 0 0, .int .i64 0, .slice none 0 0, .slice none 0 0, .slice none 0 0, .int .i64 0, .int .i64 0, .int .i64 0, .int .i64 0, .int .i64 0, .int .i64 0, .int .i64 0, .int .i64 0, .int .i64 0, .int .i64 0, .slice none 0 0, .int .i64 0, .int .i64 0, .slice none 0 0, .int .i64 0, .int .i64 0, .int .i64 0, .int .i64 0], 25, 328⟩,
 ⟨238, .struct #[⟨"World", 33, 0, true, "", "", 0⟩, ⟨"who", 3, 7, false, "", "respite/step", 152⟩, ⟨"own", 53, 8, false, "", "respite/step", 160⟩, ⟨"Instr", 98, 21, true, "", "", 296⟩], .agg #[.slice none 0 0, .slice none 0 0, .slice none 0 0, .int .i64 0, .slice none 0 0, .slice none 0 0, .slice none 0 0, .int .i64 0, .int .i64 0, .int .i64 0, .int .i64 0, .int .i64 0, .int .i64 0, .int .i64 0, .int .i64 0, .int .i64 0, .int .i64 0, .slice none 0 0, .int .i64 0, .int .i64 0, .slice none 0 0, .int .i64 0, .int .i64 0, .int .i64 0, .int .i64 0], 25, 328⟩,
 ⟨244, .array 3 34, .agg #[.int .i64 0, .int .i64 0, .int .i64 0], 3, 24⟩,
 ⟨251, .array 24 5, .agg #[.int .u8 0, .int .u8 0, .int .u8 0, .int .u8 0, .int .u8 0, .int .u8 0, .int .u8 0, .int .u8 0, .int .u8 0, .int .u8 0, .int .u8 0, .int .u8 0, .int .u8 0, .int .u8 0, .int .u8 0, .int .u8 0, .int .u8 0, .int .u8 0, .int .u8 0, .int .u8 0, .int .u8 0, .int .u8 0, .int .u8 0, .int .u8 0], 24, 24⟩,
 ⟨252, .int .u64, .int .u64 0, 1, 8⟩,
 ⟨256, .func #[109, 252, 3, 4, 4] #[109, 9] false, .nilFunc, 1, 8⟩,
 ⟨260, .struct #[⟨"why", 34, 0, false, "", "respite/step", 0⟩], .agg #[.int .i64 0], 1, 8⟩,
 ty261,
 ⟨278, .array 20 252, .agg #[.int .u64 0, .int .u64 0, .int .u64 0, .int .u64 0, .int .u64 0, .int .u64 0, .int .u64 0, .int .u64 0, .int .u64 0, .int .u64 0, .int .u64 0, .int .u64 0, .int .u64 0, .int .u64 0, .int .u64 0, .int .u64 0, .int .u64 0, .int .u64 0, .int .u64 0, .int .u64 0], 20, 160⟩,
 ⟨279, .int .u32, .int .u32 0, 1, 4⟩,
 ⟨281, .int .u64, .int .u64 0, 1, 8⟩,
 ⟨284, .func #[292] #[] false, .nilFunc, 1, 8⟩,
 ⟨285, .struct #[⟨"registers", 3, 0, false, "", "respite/local", 0⟩, ⟨"target", 3, 1, false, "", "respite/local", 8⟩, ⟨"do", 284, 2, false, "", "respite/local", 16⟩], .agg #[.int .i64 0, .int .i64 0, .nilFunc], 3, 24⟩,
 ⟨286, .struct #[⟨"registers", 3, 0, false, "", "respite/local", 0⟩, ⟨"target", 3, 1, false, "", "respite/local", 8⟩, ⟨"do", 284, 2, false, "", "respite/local", 16⟩], .agg #[.int .i64 0, .int .i64 0, .nilFunc], 3, 24⟩,
 ⟨287, .array 16 286, .agg #[.int .i64 0, .int .i64 0, .nilFunc, .int .i64 0, .int .i64 0, .nilFunc, .int .i64 0, .int .i64 0, .nilFunc, .int .i64 0, .int .i64 0, .nilFunc, .int .i64 0, .int .i64 0, .nilFunc, .int .i64 0, .int .i64 0, .nilFunc, .int .i64 0, .int .i64 0, .nilFunc, .int .i64 0, .int .i64 0, .nilFunc, .int .i64 0, .int .i64 0, .nilFunc, .int .i64 0, .int .i64 0, .nilFunc, .int .i64 0, .int .i64 0, .nilFunc, .int .i64 0, .int .i64 0, .nilFunc, .int .i64 0, .int .i64 0, .nilFunc, .int .i64 0, .int .i64 0, .nilFunc, .int .i64 0, .int .i64 0, .nilFunc, .int .i64 0, .int .i64 0, .nilFunc], 48, 384⟩,
 ⟨292, .pointer 294, .pointer none, 1, 8⟩,
 ⟨293, .struct #[⟨"Thread", 53, 0, true, "", "", 0⟩, ⟨"self", 3, 13, false, "", "respite/local", 136⟩, ⟨"Instr", 98, 14, true, "", "", 144⟩], .agg #[.int .i64 0, .int .i64 0, .int .i64 0, .int .i64 0, .int .i64 0, .int .i64 0, .int .i64 0, .int .i64 0, .int .i64 0, .slice none 0 0, .int .i64 0, .int .i64 0, .slice none 0 0, .int .i64 0, .int .i64 0, .int .i64 0, .int .i64 0, .int .i64 0], 18, 176⟩,
 ⟨294, .struct #[⟨"Thread", 53, 0, true, "", "", 0⟩, ⟨"self", 3, 13, false, "", "respite/local", 136⟩, ⟨"Instr", 98, 14, true, "", "", 144⟩], .agg #[.int .i64 0, .int .i64 0, .int .i64 0, .int .i64 0, .int .i64 0, .int .i64 0, .int .i64 0, .int .i64 0, .int .i64 0, .slice none 0 0, .int .i64 0, .int .i64 0, .slice none 0 0, .int .i64 0, .int .i64 0, .int .i64 0, .int .i64 0, .int .i64 0], 18, 176⟩,
 ⟨303, .int .i64, .int .i64 0, 1, 8⟩,
 ⟨306, .pointer 328, .pointer none, 1, 8⟩,
 ⟨314, .struct #[⟨"Tso", 29, 0, true, "", "", 0⟩], .agg #[.slice none 0 0, .slice none 0 0, .int .i64 0, .slice none 0 0], 4, 80⟩,
 ⟨315, .struct #[⟨"Tso", 29, 0, true, "", "", 0⟩], .agg #[.slice none 0 0, .slice none 0 0, .int .i64 0, .slice none 0 0], 4, 80⟩,
 ⟨320, .func #[3, 3, 3] #[3] false, .nilFunc, 1, 8⟩,
 ⟨321, .array 3 320, .agg #[.nilFunc, .nilFunc, .nilFunc], 3, 24⟩,
 ⟨327, .struct #[⟨"Func", 9, 0, false, "", "", 0⟩, ⟨"Num", 9, 1, false, "", "", 16⟩, ⟨"Err", 87, 2, false, "", "", 32⟩], .agg #[.string .empty, .string .empty, .nilIface], 3, 48⟩,
 ⟨328, .struct #[⟨"Func", 9, 0, false, "", "", 0⟩, ⟨"Num", 9, 1, false, "", "", 16⟩, ⟨"Err", 87, 2, false, "", "", 32⟩], .agg #[.string .empty, .string .empty, .nilIface], 3, 48⟩,
 ⟨330, .array 32 5, .agg #[.int .u8 0, .int .u8 0, .int .u8 0, .int .u8 0, .int .u8 0, .int .u8 0, .int .u8 0, .int .u8 0, .int .u8 0, .int .u8 0, .int .u8 0, .int .u8 0, .int .u8 0, .int .u8 0, .int .u8 0, .int .u8 0, .int .u8 0, .int .u8 0, .int .u8 0, .int .u8 0, .int .u8 0, .int .u8 0, .int .u8 0, .int .u8 0, .int .u8 0, .int .u8 0, .int .u8 0, .int .u8 0, .int .u8 0, .int .u8 0, .int .u8 0, .int .u8 0], 32, 32⟩,
 ⟨336, .pointer 315, .pointer none, 1, 8⟩,
 ⟨338, .pointer 340, .pointer none, 1, 8⟩,
 ⟨339, .struct #[⟨"s", 9, 0, false, "", "errors", 0⟩], .agg #[.string .empty], 1, 16⟩,
 ⟨340, .struct #[⟨"s", 9, 0, false, "", "errors", 0⟩], .agg #[.string .empty], 1, 16⟩,
 ⟨342, .struct #[⟨"lo", 5, 0, false, "", "unicode/utf8", 0⟩, ⟨"hi", 5, 1, false, "", "unicode/utf8", 1⟩], .agg #[.int .u8 0, .int .u8 0], 2, 2⟩,
 ⟨343, .struct #[⟨"lo", 5, 0, false, "", "unicode/utf8", 0⟩, ⟨"hi", 5, 1, false, "", "unicode/utf8", 1⟩], .agg #[.int .u8 0, .int .u8 0], 2, 2⟩,
 ⟨344, .array 16 343, .agg #[.int .u8 0, .int .u8 0, .int .u8 0, .int .u8 0, .int .u8 0, .int .u8 0, .int .u8 0, .int .u8 0, .int .u8 0, .int .u8 0, .int .u8 0, .int .u8 0, .int .u8 0, .int .u8 0, .int .u8 0, .int .u8 0, .int .u8 0, .int .u8 0, .int .u8 0, .int .u8 0, .int .u8 0, .int .u8 0, .int .u8 0, .int .u8 0, .int .u8 0, .int .u8 0, .int .u8 0, .int .u8 0, .int .u8 0, .int .u8 0, .int .u8 0, .int .u8 0], 32, 32⟩,
 ⟨350, .array 0 16, .agg #[], 0, 0⟩,
 ⟨354, .int .u8, .int .u8 0, 1, 1⟩,
 ⟨355, .func #[149, 149] #[4] false, .nilFunc, 1, 8⟩,
 ⟨356, .int .i32, .int .i32 0, 1, 4⟩,
 ⟨357, .int .i32, .int .i32 0, 1, 4⟩,
 ⟨358, .struct #[⟨"Size_", 12, 0, false, "", "", 0⟩, ⟨"PtrBytes", 12, 1, false, "", "", 8⟩, ⟨"Hash", 279, 2, false, "", "", 16⟩, ⟨"TFlag", 354, 3, false, "", "", 20⟩, ⟨"Align_", 5, 4, false, "", "", 21⟩, ⟨"FieldAlign_", 5, 5, false, "", "", 22⟩, ⟨"Kind_", 157, 6, false, "", "", 23⟩, ⟨"Equal", 355, 7, false, "", "", 24⟩, ⟨"GCData", 173, 8, false, "", "", 32⟩, ⟨"Str", 356, 9, false, "", "", 40⟩, ⟨"PtrToThis", 357, 10, false, "", "", 44⟩], .agg #[.int .u64 0, .int .u64 0, .int .u32 0, .int .u8 0, .int .u8 0, .int .u8 0, .int .u8 0, .nilFunc, .pointer none, .int .i32 0, .int .i32 0], 11, 48⟩,
 ⟨359, .struct #[⟨"Size_", 12, 0, false, "", "", 0⟩, ⟨"PtrBytes", 12, 1, false, "", "", 8⟩, ⟨"Hash", 279, 2, false, "", "", 16⟩, ⟨"TFlag", 354, 3, false, "", "", 20⟩, ⟨"Align_", 5, 4, false, "", "", 21⟩, ⟨"FieldAlign_", 5, 5, false, "", "", 22⟩, ⟨"Kind_", 157, 6, false, "", "", 23⟩, ⟨"Equal", 355, 7, false, "", "", 24⟩, ⟨"GCData", 173, 8, false, "", "", 32⟩, ⟨"Str", 356, 9, false, "", "", 40⟩, ⟨"PtrToThis", 357, 10, false, "", "", 44⟩], .agg #[.int .u64 0, .int .u64 0, .int .u32 0, .int .u8 0, .int .u8 0, .int .u8 0, .int .u8 0, .nilFunc, .pointer none, .int .i32 0, .int .i32 0], 11, 48⟩,
 ⟨362, .struct #[⟨"Method", 9, 0, false, "", "", 0⟩, ⟨"Kind", 157, 1, false, "", "", 16⟩], .agg #[.string .empty, .int .u8 0], 2, 24⟩,
 ⟨363, .struct #[⟨"Method", 9, 0, false, "", "", 0⟩, ⟨"Kind", 157, 1, false, "", "", 16⟩], .agg #[.string .empty, .int .u8 0], 2, 24⟩,
 ⟨364, .pointer 368, .pointer none, 1, 8⟩,
 ⟨366, .int .u16, .int .u16 0, 1, 2⟩,
 ⟨369, .slice 372, .slice none 0 0, 1, 24⟩,
 ⟨370, .int .i32, .int .i32 0, 1, 4⟩,
 ⟨371, .struct #[⟨"Name", 356, 0, false, "", "", 0⟩, ⟨"Mtyp", 357, 1, false, "", "", 4⟩, ⟨"Ifn", 370, 2, false, "", "", 8⟩, ⟨"Tfn", 370, 3, false, "", "", 12⟩], .agg #[.int .i32 0, .int .i32 0, .int .i32 0, .int .i32 0], 4, 16⟩,
 ⟨372, .struct #[⟨"Name", 356, 0, false, "", "", 0⟩, ⟨"Mtyp", 357, 1, false, "", "", 4⟩, ⟨"Ifn", 370, 2, false, "", "", 8⟩, ⟨"Tfn", 370, 3, false, "", "", 12⟩], .agg #[.int .i32 0, .int .i32 0, .int .i32 0, .int .i32 0], 4, 16⟩,
 ⟨373, .pointer 87, .pointer none, 1, 8⟩]
theorem tyOk_of {P : Program} : ∀ l : List TyRow, (l.map fun r => (P.underlying r.t, (P.info? r.t).map fun i => (i.zero, i.size, i.bytes))) = l.map (fun r => (some r.d, some (some r.z, r.size, r.bytes))) → TyOk P l
  | [], _ => trivial
  | r :: rs, h => by
    injection h with h1 h2
    injection h1 with h3 h4
    exact ⟨⟨h3, h4⟩, tyOk_of rs h2⟩
instance tyTab : TyTab Tryz.prog := ⟨tyRows, tyOk_of tyRows (by kernel_rfl), by kernel_rfl⟩
end Go.AL
end
section
namespace Go.Proofs
open Go.Shelf
def Tryz.lays137_ren : Go.Shelf.Ren := ⟨fun | 137 => 124 | 217 => 167 | 266 => 204 | n => n, fun | 9 => 9 | 5 => 5 | 3 => 3 | n => n, fun | n => n⟩
theorem Tryz.lays137 : Go.Proofs.Lays.n137 Tryz.prog Tryz.lays137_ren := {
 mixed := by kernel_rfl
 f137 := Tryz.func124.trans (congrArg some (by kernel_rfl))
 f217 := Tryz.func167.trans (congrArg some (by kernel_rfl))
 f266 := Tryz.func204.trans (congrArg some (by kernel_rfl))
 t3 := Tryz.underlying3
 a3 := Tryz.isAgg3
 z3 := Tryz.sizeOf3
 v3 := Tryz.zeroValue3
 t5 := Tryz.underlying5
 a5 := Tryz.isAgg5
 z5 := Tryz.sizeOf5
 v5 := Tryz.zeroValue5
 t9 := Tryz.underlying9
 a9 := Tryz.isAgg9
 z9 := Tryz.sizeOf9
 v9 := Tryz.zeroValue9 }
open Go.RowKit in
theorem Tryz.strings_IndexByte (s : ByteArray) (c : Int) (w : World) :
  Calls Tryz.prog 124 #[.string s, .int .u8 c] w fun e w' => e = .returned (.int .i64 (Lib.indexByte s.data.toList c.toNat.toUInt8)) ∧ w' = w := Any.strings_IndexByte Tryz.lays137 s c w
def Tryz.lays104_ren : Go.Shelf.Ren := ⟨fun | 104 => 82 | 211 => 125 | 207 => 168 | n => n, fun | 9 => 9 | 4 => 4 | 24 => 146 | 3 => 3 | n => n, fun | n => n⟩
theorem Tryz.lays104 : Go.Proofs.Lays.n104 Tryz.prog Tryz.lays104_ren := {
 mixed := by kernel_rfl
 f104 := Tryz.func82.trans (congrArg some (by kernel_rfl))
 f207 := Tryz.func168.trans (congrArg some (by kernel_rfl))
 f211 := Tryz.func125.trans (congrArg some (by kernel_rfl))
 t3 := Tryz.underlying3
 a3 := Tryz.isAgg3
 z3 := Tryz.sizeOf3
 v3 := Tryz.zeroValue3
 t4 := Tryz.underlying4
 a4 := Tryz.isAgg4
 z4 := Tryz.sizeOf4
 v4 := Tryz.zeroValue4
 t9 := Tryz.underlying9
 a9 := Tryz.isAgg9
 z9 := Tryz.sizeOf9
 v9 := Tryz.zeroValue9
 t24 := Tryz.underlying146
 a24 := Tryz.isAgg146
 z24 := Tryz.sizeOf146
 v24 := Tryz.zeroValue146 }
open Go.RowKit in
theorem Tryz.strings_CutSuffix (s p : ByteArray) (w : World) (hs : s.size ≤ 9223372036854775807) :
  Calls Tryz.prog 82 #[.string s, .string p] w fun e w' => e = .returned (.tuple #[.string ⟨(Lib.trimSuffix s.data.toList p.data.toList).toArray⟩, .bool (Lib.hasSuffix s.data.toList p.data.toList)]) ∧ w' = w := Any.strings_CutSuffix Tryz.lays104 s p w hs
def Tryz.laysM171_ren : Go.Shelf.Ren := ⟨fun | 171 => 56 | 243 => 99 | 246 => 142 | 283 => 172 | 284 => 173 | 285 => 174 | 286 => 175 | 129 => 210 | 317 => 209 | 318 => 211 | 319 => 212 | 320 => 213 | 337 => 242 | 338 => 243 | n => n, fun | 3 => 3 | 9 => 9 | 2 => 2 | 4 => 4 | 171 => 251 | 0 => 0 | 53 => 252 | 37 => 109 | 5 => 5 | 173 => 255 | 212 => 278 | 51 => 279 | 20 => 20 | 213 => 280 | 46 => 281 | 232 => 330 | 233 => 331 | n => n, fun | 17 => 1 | 18 => 5 | 19 => 6 | n => n⟩
theorem Tryz.laysM171 : Go.Proofs.LaysM.n171 Tryz.prog Tryz.laysM171_ren := {
 mixed := by kernel_rfl
 f129 := Tryz.func210.trans (congrArg some (by kernel_rfl))
 f171 := Tryz.func56.trans (congrArg some (by kernel_rfl))
 f243 := Tryz.func99.trans (congrArg some (by kernel_rfl))
 f246 := Tryz.func142.trans (congrArg some (by kernel_rfl))
 f283 := Tryz.func172.trans (congrArg some (by kernel_rfl))
 f284 := Tryz.func173.trans (congrArg some (by kernel_rfl))
 f285 := Tryz.func174.trans (congrArg some (by kernel_rfl))
 f286 := Tryz.func175.trans (congrArg some (by kernel_rfl))
 f317 := Tryz.func209.trans (congrArg some (by kernel_rfl))
 f318 := Tryz.func211.trans (congrArg some (by kernel_rfl))
 f319 := Tryz.func212.trans (congrArg some (by kernel_rfl))
 f320 := Tryz.func213.trans (congrArg some (by kernel_rfl))
 f337 := Tryz.func242.trans (congrArg some (by kernel_rfl))
 f338 := Tryz.func243.trans (congrArg some (by kernel_rfl))
 t0 := Tryz.underlying0
 a0 := Tryz.isAgg0
 z0 := Tryz.sizeOf0
 v0 := Tryz.zeroValue0
 t2 := Tryz.underlying2
 a2 := Tryz.isAgg2
 z2 := Tryz.sizeOf2
 v2 := Tryz.zeroValue2
 t3 := Tryz.underlying3
 a3 := Tryz.isAgg3
 z3 := Tryz.sizeOf3
 v3 := Tryz.zeroValue3
 t4 := Tryz.underlying4
 a4 := Tryz.isAgg4
 z4 := Tryz.sizeOf4
 v4 := Tryz.zeroValue4
 t5 := Tryz.underlying5
 a5 := Tryz.isAgg5
 z5 := Tryz.sizeOf5
 v5 := Tryz.zeroValue5
 t9 := Tryz.underlying9
 a9 := Tryz.isAgg9
 z9 := Tryz.sizeOf9
 v9 := Tryz.zeroValue9
 t20 := Tryz.underlying20
 a20 := Tryz.isAgg20
 z20 := Tryz.sizeOf20
 v20 := Tryz.zeroValue20
 t37 := Tryz.underlying109
 a37 := Tryz.isAgg109
 z37 := Tryz.sizeOf109
 v37 := Tryz.zeroValue109
 t46 := Tryz.underlying281
 a46 := Tryz.isAgg281
 z46 := Tryz.sizeOf281
 v46 := Tryz.zeroValue281
 t51 := Tryz.underlying279
 a51 := Tryz.isAgg279
 z51 := Tryz.sizeOf279
 v51 := Tryz.zeroValue279
 t53 := Tryz.underlying252
 a53 := Tryz.isAgg252
 z53 := Tryz.sizeOf252
 v53 := Tryz.zeroValue252
 t171 := Tryz.underlying251
 a171 := Tryz.isAgg251
 z171 := Tryz.sizeOf251
 v171 := Tryz.zeroValue251
 t173 := Tryz.underlying255
 a173 := Tryz.isAgg255
 z173 := Tryz.sizeOf255
 v173 := Tryz.zeroValue255
 t212 := Tryz.underlying278
 a212 := Tryz.isAgg278
 z212 := Tryz.sizeOf278
 v212 := Tryz.zeroValue278
 t213 := Tryz.underlying280
 a213 := Tryz.isAgg280
 z213 := Tryz.sizeOf280
 t232 := Tryz.underlying330
 a232 := Tryz.isAgg330
 z232 := Tryz.sizeOf330
 v232 := Tryz.zeroValue330
 t233 := Tryz.underlying331
 a233 := Tryz.isAgg331
 z233 := Tryz.sizeOf331
 v233 := Tryz.zeroValue331
 g17 := by kernel_rfl
 g18 := by kernel_rfl
 g19 := by kernel_rfl
 i0 := by kernel_rfl
 i2 := by kernel_rfl
 i3 := by kernel_rfl
 i4 := by kernel_rfl
 i5 := by kernel_rfl
 i9 := by kernel_rfl
 i20 := by kernel_rfl
 i37 := by kernel_rfl
 i46 := by kernel_rfl
 i51 := by kernel_rfl
 i53 := by kernel_rfl
 i171 := by kernel_rfl
 i173 := by kernel_rfl
 i212 := by kernel_rfl
 i232 := by kernel_rfl
 i233 := by kernel_rfl
 m17 := by kernel_rfl
 m18 := by kernel_rfl
 m19 := by kernel_rfl }
open Go.RowKit Go.Sort Go.Lib in
theorem Tryz.strconv_Itoa (n : Int) (h0 : -9223372036854775808 ≤ n) (h1 : n ≤ 9223372036854775807) (w : World) (htab : Lib.TabIs Tryz.prog w "internal/strconv.uint64pow10" .u64 Lib.pow10Tab) :
  Calls Tryz.prog 56 #[.int .i64 n] w fun e w' => e = .returned (.string ⟨(Lib.itoa n).toArray⟩) ∧ ∃ k os, w' = grow (w.drewN k) os := Any.strconv_Itoa Tryz.laysM171 n h0 h1 w htab
def Tryz.laysC172_ren : Go.Shelf.Ren := ⟨fun | 172 => 166 | 244 => 202 | 245 => 203 | 247 => 233 | 279 => 234 | 280 => 235 | 281 => 236 | 282 => 237 | 287 => 266 | 316 => 267 | 171 => 56 | 205 => 268 | 321 => 280 | 322 => 281 | 243 => 99 | 246 => 142 | 283 => 172 | 284 => 173 | 285 => 174 | 286 => 175 | 129 => 210 | 317 => 209 | 318 => 211 | 319 => 212 | 320 => 213 | 337 => 242 | 338 => 243 | n => n, fun | 9 => 9 | 3 => 3 | 75 => 87 | 76 => 112 | 4 => 4 | 5 => 5 | 167 => 303 | 37 => 109 | 0 => 0 | 85 => 304 | 2 => 2 | 168 => 306 | 53 => 252 | 175 => 324 | 46 => 281 | 210 => 328 | 127 => 173 | 145 => 340 | 143 => 338 | 21 => 21 | 171 => 251 | 173 => 255 | 212 => 278 | 51 => 279 | 20 => 20 | 213 => 280 | 232 => 330 | 233 => 331 | 80 => 61 | n => n, fun | 15 => 3 | 16 => 4 | 17 => 1 | 18 => 5 | 19 => 6 | n => n⟩
theorem Tryz.laysC172 : Go.Proofs.LaysC.n172 Tryz.prog Tryz.laysC172_ren := {
 mixed := by kernel_rfl
 f129 := Tryz.func210.trans (congrArg some (by kernel_rfl))
 f171 := Tryz.func56.trans (congrArg some (by kernel_rfl))
 f172 := Tryz.func166.trans (congrArg some (by kernel_rfl))
 f205 := Tryz.func268.trans (congrArg some (by kernel_rfl))
 f243 := Tryz.func99.trans (congrArg some (by kernel_rfl))
 f244 := Tryz.func202.trans (congrArg some (by kernel_rfl))
 f245 := Tryz.func203.trans (congrArg some (by kernel_rfl))
 f246 := Tryz.func142.trans (congrArg some (by kernel_rfl))
 f247 := Tryz.func233.trans (congrArg some (by kernel_rfl))
 f279 := Tryz.func234.trans (congrArg some (by kernel_rfl))
 f280 := Tryz.func235.trans (congrArg some (by kernel_rfl))
 f281 := Tryz.func236.trans (congrArg some (by kernel_rfl))
 f282 := Tryz.func237.trans (congrArg some (by kernel_rfl))
 f283 := Tryz.func172.trans (congrArg some (by kernel_rfl))
 f284 := Tryz.func173.trans (congrArg some (by kernel_rfl))
 f285 := Tryz.func174.trans (congrArg some (by kernel_rfl))
 f286 := Tryz.func175.trans (congrArg some (by kernel_rfl))
 f287 := Tryz.func266.trans (congrArg some (by kernel_rfl))
 f316 := Tryz.func267.trans (congrArg some (by kernel_rfl))
 f317 := Tryz.func209.trans (congrArg some (by kernel_rfl))
 f318 := Tryz.func211.trans (congrArg some (by kernel_rfl))
 f319 := Tryz.func212.trans (congrArg some (by kernel_rfl))
 f320 := Tryz.func213.trans (congrArg some (by kernel_rfl))
 f321 := Tryz.func280.trans (congrArg some (by kernel_rfl))
 f322 := Tryz.func281.trans (congrArg some (by kernel_rfl))
 f337 := Tryz.func242.trans (congrArg some (by kernel_rfl))
 f338 := Tryz.func243.trans (congrArg some (by kernel_rfl))
 t0 := Tryz.underlying0
 a0 := Tryz.isAgg0
 z0 := Tryz.sizeOf0
 v0 := Tryz.zeroValue0
 t2 := Tryz.underlying2
 a2 := Tryz.isAgg2
 z2 := Tryz.sizeOf2
 v2 := Tryz.zeroValue2
 t3 := Tryz.underlying3
 a3 := Tryz.isAgg3
 z3 := Tryz.sizeOf3
 v3 := Tryz.zeroValue3
 t4 := Tryz.underlying4
 a4 := Tryz.isAgg4
 z4 := Tryz.sizeOf4
 v4 := Tryz.zeroValue4
 t5 := Tryz.underlying5
 a5 := Tryz.isAgg5
 z5 := Tryz.sizeOf5
 v5 := Tryz.zeroValue5
 t9 := Tryz.underlying9
 a9 := Tryz.isAgg9
 z9 := Tryz.sizeOf9
 v9 := Tryz.zeroValue9
 t20 := Tryz.underlying20
 a20 := Tryz.isAgg20
 z20 := Tryz.sizeOf20
 v20 := Tryz.zeroValue20
 t21 := Tryz.underlying21
 a21 := Tryz.isAgg21
 z21 := Tryz.sizeOf21
 v21 := Tryz.zeroValue21
 t37 := Tryz.underlying109
 a37 := Tryz.isAgg109
 z37 := Tryz.sizeOf109
 v37 := Tryz.zeroValue109
 t46 := Tryz.underlying281
 a46 := Tryz.isAgg281
 z46 := Tryz.sizeOf281
 v46 := Tryz.zeroValue281
 t51 := Tryz.underlying279
 a51 := Tryz.isAgg279
 z51 := Tryz.sizeOf279
 v51 := Tryz.zeroValue279
 t53 := Tryz.underlying252
 a53 := Tryz.isAgg252
 z53 := Tryz.sizeOf252
 v53 := Tryz.zeroValue252
 t75 := Tryz.underlying87
 a75 := Tryz.isAgg87
 z75 := Tryz.sizeOf87
 v75 := Tryz.zeroValue87
 t76 := Tryz.underlying112
 a76 := Tryz.isAgg112
 z76 := Tryz.sizeOf112
 v76 := Tryz.zeroValue112
 t85 := Tryz.underlying304
 a85 := Tryz.isAgg304
 z85 := Tryz.sizeOf304
 v85 := Tryz.zeroValue304
 t127 := Tryz.underlying173
 a127 := Tryz.isAgg173
 z127 := Tryz.sizeOf173
 v127 := Tryz.zeroValue173
 t143 := Tryz.underlying338
 a143 := Tryz.isAgg338
 z143 := Tryz.sizeOf338
 v143 := Tryz.zeroValue338
 t145 := Tryz.underlying340
 a145 := Tryz.isAgg340
 z145 := Tryz.sizeOf340
 v145 := Tryz.zeroValue340
 t167 := Tryz.underlying303
 a167 := Tryz.isAgg303
 z167 := Tryz.sizeOf303
 v167 := Tryz.zeroValue303
 t168 := Tryz.underlying306
 a168 := Tryz.isAgg306
 z168 := Tryz.sizeOf306
 v168 := Tryz.zeroValue306
 t171 := Tryz.underlying251
 a171 := Tryz.isAgg251
 z171 := Tryz.sizeOf251
 v171 := Tryz.zeroValue251
 t173 := Tryz.underlying255
 a173 := Tryz.isAgg255
 z173 := Tryz.sizeOf255
 v173 := Tryz.zeroValue255
 t175 := Tryz.underlying324
 a175 := Tryz.isAgg324
 z175 := Tryz.sizeOf324
 v175 := Tryz.zeroValue324
 t210 := Tryz.underlying328
 a210 := Tryz.isAgg328
 z210 := Tryz.sizeOf328
 v210 := Tryz.zeroValue328
 t212 := Tryz.underlying278
 a212 := Tryz.isAgg278
 z212 := Tryz.sizeOf278
 v212 := Tryz.zeroValue278
 t213 := Tryz.underlying280
 a213 := Tryz.isAgg280
 z213 := Tryz.sizeOf280
 t232 := Tryz.underlying330
 a232 := Tryz.isAgg330
 z232 := Tryz.sizeOf330
 v232 := Tryz.zeroValue330
 t233 := Tryz.underlying331
 a233 := Tryz.isAgg331
 z233 := Tryz.sizeOf331
 v233 := Tryz.zeroValue331
 g15 := by kernel_rfl
 g16 := by kernel_rfl
 g17 := by kernel_rfl
 g18 := by kernel_rfl
 g19 := by kernel_rfl
 t80 := Tryz.underlying61
 a80 := Tryz.isAgg61
 z80 := Tryz.sizeOf61
 v80 := Tryz.zeroValue61
 i0 := by kernel_rfl
 i2 := by kernel_rfl
 i3 := by kernel_rfl
 i4 := by kernel_rfl
 i5 := by kernel_rfl
 i9 := by kernel_rfl
 i20 := by kernel_rfl
 i21 := by kernel_rfl
 i37 := by kernel_rfl
 i46 := by kernel_rfl
 i51 := by kernel_rfl
 i53 := by kernel_rfl
 i75 := by kernel_rfl
 i76 := by kernel_rfl
 i80 := by kernel_rfl
 i85 := by kernel_rfl
 i127 := by kernel_rfl
 i143 := by kernel_rfl
 i145 := by kernel_rfl
 i167 := by kernel_rfl
 i168 := by kernel_rfl
 i171 := by kernel_rfl
 i173 := by kernel_rfl
 i175 := by kernel_rfl
 i210 := by kernel_rfl
 i212 := by kernel_rfl
 i232 := by kernel_rfl
 i233 := by kernel_rfl
 m15 := by kernel_rfl
 m16 := by kernel_rfl
 m17 := by kernel_rfl
 m18 := by kernel_rfl
 m19 := by kernel_rfl
 c0 := by kernel_rfl
 c2 := by kernel_rfl
 c3 := by kernel_rfl
 c4 := by kernel_rfl
 c5 := by kernel_rfl
 c9 := by kernel_rfl
 c20 := by kernel_rfl
 c21 := by kernel_rfl
 c37 := by kernel_rfl
 c46 := by kernel_rfl
 c51 := by kernel_rfl
 c53 := by kernel_rfl
 c75 := by kernel_rfl
 c76 := by kernel_rfl
 c80 := by kernel_rfl
 c85 := by kernel_rfl
 c127 := by kernel_rfl
 c143 := by kernel_rfl
 c145 := by kernel_rfl
 c167 := by kernel_rfl
 c168 := by kernel_rfl
 c171 := by kernel_rfl
 c173 := by kernel_rfl
 c175 := by kernel_rfl
 c210 := by kernel_rfl
 c212 := by kernel_rfl
 c213 := by kernel_rfl
 c232 := by kernel_rfl
 c233 := by kernel_rfl }
open Go.RowKit in
theorem Tryz.strconv_Atoi_ok (s : ByteArray) (hmax : s.size ≤ 9223372036854775806) (v : Int) (h : Lib.atoiAll s.data.toList = .ok v) (w : World) :
  Calls Tryz.prog 166 #[.string s] w fun e w' => e = .returned (.tuple #[.int .i64 v, .nilIface]) ∧ (w' = w ∨ ∃ t, w' = Lib.bytesWorld w 5 t) := Any.strconv_Atoi_ok Tryz.laysC172 s hmax v h w
open Go.RowKit in
theorem Tryz.strconv_Atoi_syntax (s : ByteArray) (hlim : s.size ≤ 281474976710656) (h : Lib.atoiAll s.data.toList = .«syntax») (ev : Value) (w : World) (hv : w.cell? ⟨3, 0, none⟩ = some ev) (hev : ev = .nilIface ∨ ∃ te pe, ev = .iface te pe) :
  Calls Tryz.prog 166 #[.string s] w fun e w' => ∃ N, e = .returned (.tuple #[.int .i64 (0), .iface 306 (.pointer (some ⟨N, 0, none⟩))]) ∧ w.heap.size ≤ N ∧ w'.heap[N]? = some (.cells #[.string ⟨#[65, 116, 111, 105]⟩, .string s, ev] 328 (0, 0)) ∧ Below w.heap.size w w' := Any.strconv_Atoi_syntax Tryz.laysC172 s hlim h ev w hv hev
open Go.RowKit in
theorem Tryz.strconv_Atoi_range (s : ByteArray) (hlim : s.size ≤ 281474976710656) (h : Lib.atoiAll s.data.toList = .range) (ev : Value) (w : World) (hv : w.cell? ⟨4, 0, none⟩ = some ev) (hev : ev = .nilIface ∨ ∃ te pe, ev = .iface te pe) :
  Calls Tryz.prog 166 #[.string s] w fun e w' => ∃ N, e = .returned (.tuple #[.int .i64 (Lib.atoiSat s.data.toList), .iface 306 (.pointer (some ⟨N, 0, none⟩))]) ∧ w.heap.size ≤ N ∧ w'.heap[N]? = some (.cells #[.string ⟨#[65, 116, 111, 105]⟩, .string s, ev] 328 (0, 0)) ∧ Below w.heap.size w w' := Any.strconv_Atoi_range Tryz.laysC172 s hlim h ev w hv hev
def Tryz.laysGw17_ren : Go.Shelf.Ren := ⟨fun | 17 => 126 | 15 => 169 | 20 => 205 | n => n, fun | 9 => 9 | 23 => 196 | 4 => 4 | 3 => 3 | 0 => 0 | 21 => 21 | n => n, fun | n => n⟩
theorem Tryz.laysGw17 : Go.Proofs.LaysGw.n17 Tryz.prog Tryz.laysGw17_ren := {
 mixed := by kernel_rfl
 f15 := Tryz.func169.trans (congrArg some (by kernel_rfl))
 f17 := Tryz.func126.trans (congrArg some (by kernel_rfl))
 f20 := Tryz.func205.trans (congrArg some (by kernel_rfl))
 t0 := Tryz.underlying0
 a0 := Tryz.isAgg0
 z0 := Tryz.sizeOf0
 v0 := Tryz.zeroValue0
 i0 := by kernel_rfl
 t3 := Tryz.underlying3
 a3 := Tryz.isAgg3
 z3 := Tryz.sizeOf3
 v3 := Tryz.zeroValue3
 i3 := by kernel_rfl
 t4 := Tryz.underlying4
 a4 := Tryz.isAgg4
 z4 := Tryz.sizeOf4
 v4 := Tryz.zeroValue4
 i4 := by kernel_rfl
 t9 := Tryz.underlying9
 a9 := Tryz.isAgg9
 z9 := Tryz.sizeOf9
 v9 := Tryz.zeroValue9
 i9 := by kernel_rfl
 t21 := Tryz.underlying21
 a21 := Tryz.isAgg21
 z21 := Tryz.sizeOf21
 v21 := Tryz.zeroValue21
 i21 := by kernel_rfl
 t23 := Tryz.underlying196
 a23 := Tryz.isAgg196
 z23 := Tryz.sizeOf196
 v23 := Tryz.zeroValue196
 i23 := by kernel_rfl }
def Tryz.lays146_ren : Go.Shelf.Ren := ⟨fun | 146 => 129 | 221 => 170 | 268 => 206 | 138 => 207 | 143 => 208 | 195 => 238 | 197 => 239 | 218 => 240 | 219 => 241 | 260 => 269 | 217 => 167 | 225 => 270 | 224 => 271 | 267 => 272 | 266 => 204 | 314 => 282 | n => n, fun | 9 => 9 | 31 => 22 | 3 => 3 | 4 => 4 | 0 => 0 | 105 => 310 | 21 => 21 | 5 => 5 | 46 => 281 | 119 => 341 | 139 => 344 | 138 => 343 | 146 => 345 | 51 => 279 | n => n, fun | 1 => 2 | 3 => 7 | 4 => 8 | n => n⟩
theorem Tryz.lays146 : Go.Proofs.Lays.n146 Tryz.prog Tryz.lays146_ren := {
 mixed := by kernel_rfl
 f138 := Tryz.func207.trans (congrArg some (by kernel_rfl))
 f143 := Tryz.func208.trans (congrArg some (by kernel_rfl))
 f146 := Tryz.func129.trans (congrArg some (by kernel_rfl))
 f195 := Tryz.func238.trans (congrArg some (by kernel_rfl))
 f197 := Tryz.func239.trans (congrArg some (by kernel_rfl))
 f217 := Tryz.func167.trans (congrArg some (by kernel_rfl))
 f218 := Tryz.func240.trans (congrArg some (by kernel_rfl))
 f219 := Tryz.func241.trans (congrArg some (by kernel_rfl))
 f221 := Tryz.func170.trans (congrArg some (by kernel_rfl))
 f224 := Tryz.func271.trans (congrArg some (by kernel_rfl))
 f225 := Tryz.func270.trans (congrArg some (by kernel_rfl))
 f260 := Tryz.func269.trans (congrArg some (by kernel_rfl))
 f266 := Tryz.func204.trans (congrArg some (by kernel_rfl))
 f267 := Tryz.func272.trans (congrArg some (by kernel_rfl))
 f268 := Tryz.func206.trans (congrArg some (by kernel_rfl))
 f314 := Tryz.func282.trans (congrArg some (by kernel_rfl))
 t0 := Tryz.underlying0
 a0 := Tryz.isAgg0
 z0 := Tryz.sizeOf0
 v0 := Tryz.zeroValue0
 t3 := Tryz.underlying3
 a3 := Tryz.isAgg3
 z3 := Tryz.sizeOf3
 v3 := Tryz.zeroValue3
 t4 := Tryz.underlying4
 a4 := Tryz.isAgg4
 z4 := Tryz.sizeOf4
 v4 := Tryz.zeroValue4
 t5 := Tryz.underlying5
 a5 := Tryz.isAgg5
 z5 := Tryz.sizeOf5
 v5 := Tryz.zeroValue5
 t9 := Tryz.underlying9
 a9 := Tryz.isAgg9
 z9 := Tryz.sizeOf9
 v9 := Tryz.zeroValue9
 t21 := Tryz.underlying21
 a21 := Tryz.isAgg21
 z21 := Tryz.sizeOf21
 v21 := Tryz.zeroValue21
 t31 := Tryz.underlying22
 a31 := Tryz.isAgg22
 z31 := Tryz.sizeOf22
 v31 := Tryz.zeroValue22
 t46 := Tryz.underlying281
 a46 := Tryz.isAgg281
 z46 := Tryz.sizeOf281
 v46 := Tryz.zeroValue281
 t51 := Tryz.underlying279
 a51 := Tryz.isAgg279
 z51 := Tryz.sizeOf279
 v51 := Tryz.zeroValue279
 t105 := Tryz.underlying310
 a105 := Tryz.isAgg310
 z105 := Tryz.sizeOf310
 v105 := Tryz.zeroValue310
 t119 := Tryz.underlying341
 a119 := Tryz.isAgg341
 z119 := Tryz.sizeOf341
 t138 := Tryz.underlying343
 a138 := Tryz.isAgg343
 z138 := Tryz.sizeOf343
 v138 := Tryz.zeroValue343
 t139 := Tryz.underlying344
 a139 := Tryz.isAgg344
 z139 := Tryz.sizeOf344
 v139 := Tryz.zeroValue344
 t146 := Tryz.underlying345
 a146 := Tryz.isAgg345
 z146 := Tryz.sizeOf345
 v146 := Tryz.zeroValue345
 g1 := by kernel_rfl
 g3 := by kernel_rfl
 g4 := by kernel_rfl }
open Go.RowKit Go.Lib in
theorem Tryz.strings_Split (s sep : ByteArray) (m : Int) (w : World) (hs : s.size < 4294967281) (hm : w.cell? ⟨2, 0, none⟩ = some (.int .i64 m)) (h1 : 1 ≤ sep.size) :
  Calls Tryz.prog 129 #[.string s, .string sep] w fun e w' =>
   e = .returned (.slice (some ⟨w.heap.size, 0, none⟩) (Lib.countB s sep + 1) (Lib.countB s sep + 1)) ∧ w' = w.alloc (.cells ((Lib.splitB sep 0 (Lib.countB s sep) s).map Value.string).toArray 9) := Any.strings_Split Tryz.lays146 (by kernel_rfl) s sep m w hs hm h1
open Go.RowKit Go.Lib in
theorem Tryz.strings_ContainsFunc_grows (g : Nat) (lb : Array Value) (eg : ∀ args w, (callFunc g args).run Tryz.prog w = .ok (.enter g args) w) (p : Nat → Bool) (s : ByteArray) (w : World) (hp : PredGrows Tryz.prog g lb p w) :
  Calls Tryz.prog 126 #[.string s, .func (.func g) #[] lb] w fun e w' => e = .returned (.bool (decide (0 ≤ Lib.idxFunc p true s))) ∧ Below w.heap.size w w' := Any.strings_ContainsFunc_grows Tryz.laysGw17 g lb eg p s w hp
end Go.Proofs
end
section
namespace Go.Proofs
open Go.Shelf
end Go.Proofs
end
section
namespace Go.Proofs
open Go.Shelf
end Go.Proofs
end
section
set_option maxRecDepth 100000
namespace Go.AL
open Go Go.Proofs
attribute [local irreducible] J
abbrev Bs := List UInt8
def S (l : Bs) : Value := .string ⟨l.toArray⟩
def sv (l : Bs) : AVal := .v (S l)
def iv (n : Int) : AVal := .v (.int .i64 n)
def bv (b : Bool) : AVal := .v (.bool b)
theorem indexByte_ok (l : Bs) (c : UInt8) : ACalls Tryz.prog 124 [sv l, .v (.int .u8 c.toNat)] [] (one (iv (Lib.indexByte l c)) []) :=
 lib_one (xs := [S l, .int .u8 c.toNat]) (u := .int .i64 (Lib.indexByte l c)) ⟨_, Tryz.func124, by kernel_rfl, by kernel_rfl⟩ (fun _ => rfl) fun w => (Tryz.strings_IndexByte ⟨l.toArray⟩ c.toNat w).mono fun e w' ⟨h1, h2⟩ => by
  subst h2
  refine ⟨?_, RowKit.Below.refl _ _⟩
  rw [h1]
  simp
theorem cutSuffix_ok (l p : Bs) (hl : l.length ≤ 9223372036854775807) : ACalls Tryz.prog 82 [sv l, sv p] [] (one (.tup [sv (Lib.trimSuffix l p), bv (Lib.hasSuffix l p)]) []) :=
 lib_one (xs := [S l, S p]) (u := .tuple #[S (Lib.trimSuffix l p), .bool (Lib.hasSuffix l p)]) ⟨_, Tryz.func82, by kernel_rfl, by kernel_rfl⟩ (fun _ => ⟨_, rfl, _, _, rfl, rfl, _, _, rfl, rfl, rfl⟩) fun w => (Tryz.strings_CutSuffix ⟨l.toArray⟩ ⟨p.toArray⟩ w (by simpa [ByteArray.size] using hl)).mono fun e w' ⟨h1, h2⟩ => by
  subst h2
  exact ⟨h1, RowKit.Below.refl _ _⟩
def inn (n a b : Int) : Bool := decide (n ≥ a) && decide (n ≤ b)
theorem in_ok (n a b : Int) : ACalls Tryz.prog 119 [iv n, iv a, iv b] [] (one (bv (inn n a b)) []) := by
 refine jcalls Tryz.func119 rfl (by kernel_rfl) Tryz.ntmps119 rfl rfl (fun w0 β0 ext hβ => ?_)
 unfold iv
 repeat (first | refine jS ?_ | refine jD ?_ | refine jB ?_)
 refine jg rfl rfl rfl rfl (fun h => ?_) (fun h => ?_)
 ·repeat (first | refine jS ?_ | refine jD ?_ | refine jB ?_)
  refine jr rfl rfl ?_ rfl
  unfold bv
  rw [inn, h]; rfl
 ·repeat (first | refine jS ?_ | refine jD ?_ | refine jB ?_)
  refine jr rfl rfl ?_ rfl
  unfold bv
  rw [inn, h]; rfl
def notN (r : Nat) : Bool := !inn r 97 122 && !inn r 48 57
theorem notN_ok (r : Nat) (hr : r ≤ 1114111) : ACalls Tryz.prog 127 [.v (.int .i32 r)] [] (one (bv (notN r)) []) := by
 have e : (IntKind.i64.wrap (r : Int)) = r := wrap_id (by omega) (by omega)
 have h1 : ACalls Tryz.prog 119 [.v (.int .i64 (IntKind.i64.wrap (r : Int))), .v (.int .i64 97), .v (.int .i64 122)] [] (one (.v (.bool (inn r 97 122))) []) := by rw [e]; exact in_ok r 97 122
 have h2 : ACalls Tryz.prog 119 [.v (.int .i64 (IntKind.i64.wrap (r : Int))), .v (.int .i64 48), .v (.int .i64 57)] [] (one (.v (.bool (inn r 48 57))) []) := by rw [e]; exact in_ok r 48 57
 unfold notN bv
 generalize inn r 97 122 = b1 at *
 generalize inn r 48 57 = b2 at *
 cases b1 <;> cases b2
 all_goals refine jcalls Tryz.func127 rfl (by kernel_rfl) Tryz.ntmps127 rfl rfl (fun w0 β0 ext hβ => ?_)
 all_goals (
  repeat (first | refine jS ?_ | refine jD ?_ | refine jB ?_ | refine jV h1 ?_ | refine jV h2 ?_)
 )
 all_goals exact jR
theorem contains_ok (l : Bs) : ACalls Tryz.prog 126 [sv l, .fn (.func 127) [] []] [] (one (bv (decide (0 ≤ Lib.idxFunc notN true ⟨l.toArray⟩))) []) := by
 refine ⟨⟨_, Tryz.func126, by kernel_rfl, by kernel_rfl⟩, fun ext w β us hI hx hr => ?_⟩
 obtain ⟨u1, us1, rfl, h1, u2, us2, rfl, ⟨a1, a2, rfl, g1, g2⟩, h3⟩ := hr
 have h3 : us2 = [] := h3
 have e1 : a1 = #[] := Array.toList_eq_nil_iff.1 g1
 have e2 : a2 = #[] := Array.toList_eq_nil_iff.1 g2
 have h1 : u1 = S l := h1
 subst h3; subst e1; subst e2; subst h1
 refine (Tryz.strings_ContainsFunc_grows 127 #[] (fun args w => callFunc_run ⟨_, Tryz.func127, by kernel_rfl, by kernel_rfl⟩ args w) notN ⟨l.toArray⟩ w ?_).mono fun e w' ⟨h1, h2⟩ => ?_
 ·intro W x hx hb
  exact lib_back (xs := [.int .i32 x]) (x := .bool (notN x)) (notN_ok x hx) W
 ·subst h1
  exact ⟨_, _, β, ⟨rfl, rfl⟩, rfl, below_inv hI h2, below_step h2 β fun b hb => (hI.sep b hb).2⟩
end Go.AL
end
section
set_option maxRecDepth 100000
namespace Go.AL
open Go Go.Proofs
attribute [local irreducible] J
def nameP : Bs → Bool
 | [] => false
 | c :: r => inn (r.length + 1 : Nat) 1 12 && (inn c.toNat 97 122 && !decide (0 ≤ Lib.idxFunc notN true ⟨(c :: r).toArray⟩))
theorem isName_ok (l : Bs) : ACalls Tryz.prog 83 [sv l] [] (one (bv (nameP l)) []) := by
 cases l with
 | nil =>
  have h1 := in_ok 0 1 12
  have e : inn 0 1 12 = false := by decide
  rw [e] at h1
  unfold iv bv at h1
  unfold sv bv S
  refine jcalls Tryz.func83 rfl (by kernel_rfl) Tryz.ntmps83 rfl rfl (fun w0 β0 ext hβ => ?_)
  repeat (first | refine jS ?_ | refine jD ?_ | refine jB ?_ | refine jV h1 ?_)
  exact jR
 | cons c r =>
  have h1 := in_ok (r.length + 1 : Nat) 1 12
  have h2 := in_ok (IntKind.i64.wrap (c.toNat : Int)) 97 122
  have hc : (c.toNat : Int) ≤ 255 := by have := c.toNat_lt; omega
  rw [wrap_id (by omega) (by omega)] at h2
  have h2 : ACalls Tryz.prog 119 [.v (.int .i64 (IntKind.i64.wrap (c.toNat : Int))), .v (.int .i64 97), .v (.int .i64 122)] [] (one (.v (.bool (inn c.toNat 97 122))) []) := by rw [wrap_id (by omega) (by omega)]; exact h2
  have h3 := contains_ok (c :: r)
  show ACalls _ _ _ _ (one (bv (inn (r.length + 1 : Nat) 1 12 && (inn c.toNat 97 122 && !decide (0 ≤ Lib.idxFunc notN true ⟨(c :: r).toArray⟩)))) [])
  generalize inn (r.length + 1 : Nat) 1 12 = b1 at *
  generalize inn c.toNat 97 122 = b2 at *
  generalize decide (0 ≤ Lib.idxFunc notN true ⟨(c :: r).toArray⟩) = b3 at *
  unfold iv bv at h1
  unfold sv bv S at h3
  unfold sv bv S
  cases b1 <;> cases b2
  all_goals refine jcalls Tryz.func83 rfl (by kernel_rfl) Tryz.ntmps83 rfl rfl (fun w0 β0 ext hβ => ?_)
  all_goals (
   repeat (first | refine jS ?_ | refine jD ?_ | refine jB ?_ | refine jV h1 ?_ | refine jV h2 ?_ | refine jV h3 ?_ | refine jo rfl rfl (index_str rfl rfl rfl rfl (by decide) (c := c) rfl) rfl rfl ?_)
  )
  all_goals exact jR
def lnHead (s : Bs) : Bs := if 0 ≤ Lib.indexByte s 10 then s.take ((Lib.indexByte s 10).toNat + 1) else s
def lnTail (s : Bs) : Bs := if 0 ≤ Lib.indexByte s 10 then s.drop ((Lib.indexByte s 10).toNat + 1) else []
def chunks : Bs → List Bs
 | [] => []
 | c :: r => if c = 10 then [10] :: chunks r else match chunks r with
  | [] => [[c]]
  | h :: t => (c :: h) :: t
theorem indexByte_lt (s : Bs) (c : UInt8) : Lib.indexByte s c < s.length := by
 induction s with
 | nil => simp [Lib.indexByte]
 | cons b l ih =>
  unfold Lib.indexByte
  simp only [List.length_cons]
  split
  ·omega
  ·split <;> omega
theorem chunks_nil : ∀ s, chunks s = [] → s = []
 | [], _ => rfl
 | c :: r, h => by
  unfold chunks at h
  split at h
  ·cases h
  ·split at h <;> cases h
theorem chunks_cons : ∀ (s : Bs), s ≠ [] → chunks s = lnHead s :: chunks (lnTail s)
 | [], h => absurd rfl h
 | c :: r, _ => by
  rw [chunks]
  unfold lnHead lnTail
  by_cases hc : c = 10
  ·subst hc
   have : Lib.indexByte (10 :: r) 10 = 0 := by simp [Lib.indexByte]
   simp [this]
  ·have hb : (c == (10 : UInt8)) = false := by simpa using hc
   rw [if_neg hc]
   have hge := Lib.indexByte_ge r 10
   by_cases hr : r = []
   ·subst hr
    have : Lib.indexByte [c] 10 = -1 := by simp [Lib.indexByte, hb]
    simp [this, chunks]
   ·rw [chunks_cons r hr]
    unfold lnHead lnTail
    by_cases h0 : 0 ≤ Lib.indexByte r 10
    ·have h1 : (Lib.indexByte r 10 == -1) = false := by simp; omega
     have h2 : Lib.indexByte (c :: r) 10 = Lib.indexByte r 10 + 1 := by simp only [Lib.indexByte, hb, h1]; simp
     rw [h2, if_pos h0, if_pos h0, if_pos (by omega), if_pos (by omega)]
     have : (Lib.indexByte r 10 + 1).toNat = (Lib.indexByte r 10).toNat + 1 := by omega
     rw [this]; simp
    ·have h1 : Lib.indexByte r 10 = -1 := by omega
     have h2 : Lib.indexByte (c :: r) 10 = -1 := by simp [Lib.indexByte, hb, h1]
     rw [h2, h1]; simp [chunks]
def restAt (s : Bs) : Nat → Bs
 | 0 => s
 | k + 1 => lnTail (restAt s k)
theorem chunks_drop (s : Bs) : ∀ k, chunks (restAt s k) = (chunks s).drop k
 | 0 => rfl
 | k + 1 => by
  have ih := chunks_drop s k
  by_cases h : restAt s k = []
  ·have : lnTail (restAt s k) = [] := by rw [h]; rfl
   show chunks (lnTail (restAt s k)) = _
   rw [h] at ih
   rw [this]
   have h2 : (chunks s).drop k = [] := ih.symm
   rw [List.drop_eq_nil_iff] at h2
   exact (List.drop_eq_nil_iff.2 (by omega)).symm
  ·rw [chunks_cons _ h] at ih
   show chunks (lnTail (restAt s k)) = _
   rw [← List.drop_drop, ← ih]
   rfl
theorem rest_lt {s : Bs} {k : Nat} (h : k < (chunks s).length) : restAt s k ≠ [] ∧ (chunks s)[k] = lnHead (restAt s k) := by
 have h1 := chunks_drop s k
 have hne : restAt s k ≠ [] := fun e => by
  rw [e] at h1
  have := List.drop_eq_nil_iff.1 h1.symm
  omega
 refine ⟨hne, ?_⟩
 rw [chunks_cons _ hne] at h1
 have := congrArg (fun l => l[0]?) h1
 simp only [List.getElem?_cons_zero, List.getElem?_drop, Nat.add_zero] at this
 rw [List.getElem?_eq_getElem h] at this
 simpa using this.symm
theorem rest_end (s : Bs) : restAt s (chunks s).length = [] := chunks_nil _ (by rw [chunks_drop]; simp)
theorem rest_len (s : Bs) : ∀ k, (restAt s k).length ≤ s.length
 | 0 => Nat.le_refl _
 | k + 1 => by
  have := rest_len s k
  show (lnTail (restAt s k)).length ≤ _
  unfold lnTail
  split
  ·rw [List.length_drop]; omega
  ·simp
theorem lines_ok (s : Bs) : ACalls Tryz.prog 81 [sv s] [] (one (.fn (.func 123) [] [.ptr 0 0]) [.box 9 [sv s]]) := by
 refine jcalls Tryz.func81 rfl (by kernel_rfl) Tryz.ntmps81 rfl rfl (fun w0 β0 ext hβ => ?_)
 repeat (first | refine jS ?_ | refine jD ?_ | refine jB ?_)
 exact jret [0] true rfl rfl rfl ⟨rfl, rfl⟩
end Go.AL
end
section
set_option maxRecDepth 100000
namespace Go.AL
open Go Go.Proofs
attribute [local irreducible] J
theorem scut_take (s : Bs) (n : Nat) : AVal.v (.string ((⟨s.toArray⟩ : ByteArray).extract 0 n)) = sv (s.take n) := by
 unfold sv S
 congr 2
 apply ByteArray.ext
 apply Array.ext'
 simp [ByteArray.data_extract]
theorem scut_drop (s : Bs) (n : Nat) : AVal.v (.string ((⟨s.toArray⟩ : ByteArray).extract n (⟨s.toArray⟩ : ByteArray).size)) = sv (s.drop n) := by
 unfold sv S
 congr 2
 apply ByteArray.ext
 apply Array.ext'
 simp [ByteArray.data_extract, ByteArray.size]
 exact List.take_of_length_le (by simp)
section
variable {P : Program} [T : TyTab P] {F : Fr} {H : List AObj} {dst : Option Tmp} {t : TypeId} {x o : Operand} {type : TypeId} {pos : String} {after : Array Edge} {guard : Option (Nat × Bool)} {s : Bs} {n : Int} {r' : TyRow}
theorem cutH (m : Nat) (hx : ev F x = some (sv s)) (ho : ev F o = some (.v (.int .i64 n))) (ht : tfind T.tab t = some r') (hd : r'.d = .string) (hn : n = m) (hm : m ≤ s.length) :
  DSem P .p ⟨dst, .slice t x none (some o) none, type, pos, after, guard⟩ F H (sv (s.take m)) H := by
 have := cut_str (P := P) (dst := dst) (type := type) (pos := pos) (after := after) (guard := guard) (H := H) (lo := none) (hi := some o) (l := 0) (h := n) hx rfl ⟨.i64, ho⟩ ht hd (by omega) (by omega) (by simp [ByteArray.size]; omega)
 rw [← scut_take, hn] at *
 simpa using this
theorem cutL (m : Nat) (hx : ev F x = some (sv s)) (ho : ev F o = some (.v (.int .i64 n))) (ht : tfind T.tab t = some r') (hd : r'.d = .string) (hn : n = m) (hm : m ≤ s.length) :
  DSem P .p ⟨dst, .slice t x (some o) none none, type, pos, after, guard⟩ F H (sv (s.drop m)) H := by
 have := cut_str (P := P) (dst := dst) (type := type) (pos := pos) (after := after) (guard := guard) (H := H) (lo := some o) (hi := none) (l := n) (h := (s.length : Int)) hx ⟨.i64, ho⟩ (by simp [ByteArray.size]) ht hd (by omega) (by omega) (by simp [ByteArray.size])
 rw [← scut_drop, hn] at *
 simpa [ByteArray.size] using this
theorem store_box {a x : Operand} {j off : Nat} {bt : TypeId} {cs cs' : List AVal} {v : AVal}
  (ha : ev F a = some (.ptr j off)) (hx : ev F x = some v) (hH : H[j]? = some (.box bt cs)) (ht : tfind T.tab t = some r') (hl : v.cells.length = r'.size) (hf : v.flat = true) (hin : off + r'.size ≤ cs.length) (hs : spliceA cs off v.cells = cs') :
  DSem P .m ⟨dst, .store t a x, type, pos, after, guard⟩ F H (.tup []) (H.set j (.box bt cs')) := by
 subst hs
 exact store_sem ha hx hH ht hl hf hin
end
theorem lines1_ok (l jb : Nat) (s : Bs) (hs : s.length ≤ 1000000) (A : Nat → List AObj) (ok : Nat → Prop) (h0 : ok 0) (Z : List AObj → Prop) (hA : ∀ k, k ≤ (chunks s).length → (A k)[jb]? = some (.box 9 [sv (restAt s k)]))
  (hY : ∀ (k : Nat) (hk : k < (chunks s).length), ok k → AYield Tryz.prog l [sv (chunks s)[k]] ((A k).set jb (.box 9 [sv (restAt s (k + 1))])) (fun r H' => (r = .ret (bv true) ∧ H' = A (k + 1) ∧ ok (k + 1)) ∨ (r = .ret (bv false) ∧ Z H'))) :
  ACalls Tryz.prog 123 [.fn (.yield l) [] [], .ptr jb 0] (A 0) (fun r H' => r = .ret (.tup []) ∧ ((H' = A (chunks s).length ∧ ok (chunks s).length) ∨ Z H')) := by
 refine jcalls0 Tryz.func123 rfl (by kernel_rfl) Tryz.ntmps123 rfl rfl (fun w0 β0 ext hβ => ?_)
 refine jS ?_
 refine jloopI (fun k => k ≤ (chunks s).length ∧ ok k) [0, 1] (fun _ => [.fn (.yield l) [] [], .ptr jb 0]) A (fun k => (chunks s).length - k) 0 ⟨Nat.zero_le _, h0⟩ rfl rfl (fun k hk => ?_)
 obtain ⟨hk, hok⟩ := hk
 have hb := hA k hk
 have hlen := rest_len s k
 by_cases hend : k = (chunks s).length
 ·have he : restAt s k = [] := by rw [hend]; exact rest_end s
  rw [he] at hb
  repeat (first | refine jS ?_ | refine jD ?_ | refine jB ?_ | refine jo rfl rfl (load_dsem (r := ty9) rfl hb rfl rfl) rfl rfl ?_)
  refine jend0 rfl ⟨rfl, .inl ⟨by rw [hend], by rw [← hend]; exact hok⟩⟩
 ·have hk' : k < (chunks s).length := by omega
  obtain ⟨hne, hck⟩ := rest_lt hk'
  have hy := hY k hk' hok
  rw [hck] at hy
  have hidx := indexByte_ok (restAt s k) 10
  have hge := Lib.indexByte_ge (restAt s k) 10
  have hlt := indexByte_lt (restAt s k) 10
  have hnext : restAt s (k + 1) = lnTail (restAt s k) := rfl
  rw [hnext] at hy
  unfold lnHead lnTail at hy
  generalize restAt s k = r at *
  generalize Lib.indexByte r 10 = n at *
  have h0 : 0 < r.length := by cases r with | nil => exact absurd rfl hne | cons => simp
  unfold iv sv at hidx
  repeat (first | refine jS ?_ | refine jD ?_ | refine jB ?_ | refine jo rfl rfl (load_dsem (r := ty9) rfl hb rfl rfl) rfl rfl ?_)
  refine jc rfl rfl rfl (fun h => ?_) (fun h => (by exfalso; have h' := of_decide_eq_false h; rw [show ByteArray.size ⟨r.toArray⟩ = r.length from rfl] at h'; omega))
  repeat (first | refine jS ?_ | refine jD ?_ | refine jB ?_ | refine jo rfl rfl (load_dsem (r := ty9) rfl hb rfl rfl) rfl rfl ?_ | refine jV hidx ?_)
  refine jc rfl rfl rfl (fun h1 => ?_) (fun h1 => ?_)
  ·have h1 := of_decide_eq_true h1
   rw [if_pos h1, if_pos h1] at hy
   have hw : IntKind.i64.wrap (n + 1) = ((n.toNat + 1 : Nat) : Int) := by rw [wrap_id (by omega) (by omega)]; omega
   repeat (first | refine jS ?_ | refine jD ?_ | refine jB ?_ | refine jo rfl rfl (load_dsem (r := ty9) rfl hb rfl rfl) rfl rfl ?_ | refine jo rfl rfl (cutH (n.toNat + 1) rfl rfl rfl rfl hw (by omega)) rfl rfl ?_ | refine jo rfl rfl (cutL (n.toNat + 1) rfl rfl rfl rfl hw (by omega)) rfl rfl ?_ | refine jo rfl rfl (store_box (r' := ty9) rfl rfl hb rfl rfl rfl (Nat.le_refl 1) rfl) rfl rfl ?_)
   refine jy hy rfl rfl rfl rfl (fun r' H' hres => ?_)
   rcases hres with ⟨rfl, rfl, hok2⟩ | ⟨rfl, hz⟩
   ·refine ⟨_, rfl, ?_⟩
    repeat (first | refine jS ?_ | refine jD ?_ | refine jB ?_)
    exact jnextI (k + 1) ⟨by omega, hok2⟩ rfl rfl (by omega)
   ·refine ⟨_, rfl, ?_⟩
    repeat (first | refine jS ?_ | refine jD ?_ | refine jB ?_)
    exact jret0 rfl ⟨rfl, .inr hz⟩
  ·have h1 := of_decide_eq_false h1
   rw [if_neg h1, if_neg h1] at hy
   repeat (first | refine jS ?_ | refine jD ?_ | refine jB ?_ | refine jo rfl rfl (load_dsem (r := ty9) rfl hb rfl rfl) rfl rfl ?_ | refine jo rfl rfl (store_box (r' := ty9) rfl rfl hb rfl rfl rfl (Nat.le_refl 1) rfl) rfl rfl ?_)
   refine jy hy rfl rfl rfl rfl (fun r' H' hres => ?_)
   rcases hres with ⟨rfl, rfl, hok2⟩ | ⟨rfl, hz⟩
   ·refine ⟨_, rfl, ?_⟩
    repeat (first | refine jS ?_ | refine jD ?_ | refine jB ?_)
    exact jnextI (k + 1) ⟨by omega, hok2⟩ rfl rfl (by omega)
   ·refine ⟨_, rfl, ?_⟩
    repeat (first | refine jS ?_ | refine jD ?_ | refine jB ?_)
    exact jret0 rfl ⟨rfl, .inr hz⟩
end Go.AL
end
