/-
  The rules by which a walk goes on where a step does not: orders that are open, calls, conditions, loops, and the end. No conditions.
-/
import Derived.Test.YthogeodbnnfamaaB1
set_option linter.unusedVariables false
namespace Go.AL
open Go

section
variable {P : Program} {G : Gh} {Q : APost} {F F' : Fr} {H H' : List AObj} {k : Kt}

/-- a region whose order is open, in the order of the text -/
theorem jdraw [T : TyTab P] {id : Nat} {l : List Oper} (hc : drawOk l (plan0 0 l) = true) (next : J P G Q (.d l.toArray (plan0 0 l) k) F H) : J P G Q (.c (.region id l.toArray true) k) F H := aw_draw hc next
theorem jdrawP [T : TyTab P] {id : Nat} {l : List Oper} (pl : List (Nat × K)) (hp : pl.all (fun x => Nat.blt x.1 l.length) = true) (hc : drawOk l (plan l pl) = true)
    (next : J P G Q (.d l.toArray (plan l pl) k) F H) : J P G Q (.c (.region id l.toArray true) k) F H := aw_drawP pl hp hc next

/-- the next operation, and what is behind it -/
def nextO : Pt → Option (Array Oper × Oper × Option K × Pt)
  | .l ops l k => match l with
    | [] => none
    | o :: l => some (ops, o, none, .l ops l k)
  | .d ops l k => match l with
    | [] => none
    | (_, o, kk) :: l => some (ops, o, some kk, .d ops l k)
  | _ => none
def okK (k : K) : Option K → Bool
  | none => true
  | some kk => k.le kk
/-- an operation of which DSem is known -/
theorem jo {s s' : Pt} {ops : Array Oper} {o : Oper} {kk : Option K} {kd : K} {v : AVal} (h : nextO s = some (ops, o, kk, s')) (hg : guardA ops F o = some true) (hd : DSem P kd o F H v H') (hk : okK kd kk = true) (hp : putA G.n o.dst v F = some F')
    (next : J P G Q s' F' H') : J P G Q s F H := by
  obtain ⟨h1, rfl⟩ := putA_ok hp
  cases s with
  | c => cases h
  | e => cases h
  | l os l k =>
    simp only [nextO] at h
    split at h
    · cases h
    · injection h with h; injection h with h2 h3; injection h3 with h3 h4; injection h4 with h4 h5; subst h2; subst h3; subst h5
      exact awl_op h1 hg hd.op next
  | d os l k =>
    simp only [nextO] at h
    split at h
    · cases h
    · injection h with h; injection h with h2 h3; injection h3 with h3 h4; injection h4 with h4 h5; subst h2; subst h3; subst h4; subst h5
      exact ⟨dstOk_ok h1, v, H', .inl ⟨hg, hd.up hk⟩, next⟩

theorem ltV_rn {τ : Nat → Nat} : ∀ {v : AVal}, ltV 0 v = true → rnV τ v = v := by
  intro v
  refine AVal.rec (motive_1 := fun v => ltV 0 v = true → rnV τ v = v) (motive_2 := fun l => ltL 0 l = true → rnL τ l = l) ?_ ?_ ?_ ?_ ?_ ?_ ?_ ?_ ?_ ?_ ?_ ?_ ?_ ?_ ?_ v
  all_goals intros
  all_goals try simp_all [ltV, ltL, rnV, rnL]
theorem ltL_rn {τ : Nat → Nat} : ∀ {l : List AVal}, ltL 0 l = true → rnL τ l = l
  | [], _ => rfl
  | x :: xs, h => by
    simp only [ltL, Bool.and_eq_true] at h
    simp only [rnL, ltV_rn h.1, ltL_rn h.2]

def callO (F : Fr) (o : Op) : Option (FuncId × List AVal) :=
  match o with
  | .call c => match c.callee with
    | .value fo => match ev F fo, evs F c.args.toList with
      | some (.fn (.func g) first cap), some vs => some (g, first ++ vs ++ cap)
      | _, _ => none
    | _ => none
  | _ => none
theorem callO_sem {dst : Option Tmp} {o : Op} {type : TypeId} {pos : String} {after : Array Edge} {guard : Option (Nat × Bool)} {f : FuncId} {args : List AVal} (h : callO F o = some (f, args)) {res : Eff} (hc : ACalls P f args H res) :
    OpSem P ⟨dst, o, type, pos, after, guard⟩ F H res := by
  unfold callO at h
  split at h
  · rename_i c
    split at h
    · rename_i fo hfo
      split at h
      · rename_i g first cap vs hf ha
        simp only [Option.some.injEq, Prod.mk.injEq] at h
        obtain ⟨rfl, rfl⟩ := h
        obtain ⟨callee, as, ts⟩ := c
        subst hfo
        exact call_sem hf ha hc
      · cases h
    · cases h
  · cases h

/-- a call of a function that is handed values alone and gives one -/
theorem callV {f : FuncId} {args : List AVal} {v : AVal} (hc : ACalls P f args [] (one v [])) {dst : Option Tmp} {o : Op} {type : TypeId} {pos : String} {after : Array Edge} {guard : Option (Nat × Bool)} (h : callO F o = some (f, args))
    (hl : (ltL 0 args && ltV 0 v) = true) : DSem P .p ⟨dst, o, type, pos, after, guard⟩ F H v H := by
  simp only [Bool.and_eq_true] at hl
  refine ⟨rfl, fun H' => callO_sem h ?_⟩
  have := hc.from (Hc := H') [] rfl rfl hl.1 rfl (fun i j h => by simp at h)
  rw [ltL_rn hl.1] at this
  refine this.mono ?_
  rintro r G ⟨r0, Ho, ⟨rfl, rfl⟩, _, rfl, rfl⟩
  exact ⟨by show ARes.ret (rnV _ v) = _; rw [ltV_rn hl.2], by simp [putBack]⟩
theorem jv {f : FuncId} {args : List AVal} {v : AVal} (hc : ACalls P f args [] (one v [])) {s s' : Pt} {ops : Array Oper} {dst : Option Tmp} {o : Op} {type : TypeId} {pos : String} {after : Array Edge} {guard : Option (Nat × Bool)} {kk : Option K}
    (h : nextO s = some (ops, ⟨dst, o, type, pos, after, guard⟩, kk, s')) (ho : callO F o = some (f, args)) (hg : guardA ops F ⟨dst, o, type, pos, after, guard⟩ = some true) (hl : (ltL 0 args && ltV 0 v) = true) (hp : putA G.n dst v F = some F')
    (next : J P G Q s' F' H) : J P G Q s F H :=
  jo h hg (callV hc ho hl) (by cases kk <;> rfl) hp next

/-- a call of a function that is handed owned things: σ tells which -/
def sigA (σ : List Nat) (Hc H : List AObj) (args0 args : List AVal) : Prop :=
  rnL (tau σ Hc.length) args0 = args ∧ sigOk σ Hc.length = true ∧ σ.length = H.length ∧ ltL σ.length args0 = true ∧ H.all (ltO σ.length) = true ∧ σ.map (fun j => Hc[j]?) = H.map (fun o => some (rnO (tau σ Hc.length) o))
theorem callB (σ : List Nat) {f : FuncId} {args0 args : List AVal} {v v' : AVal} {Hc Hc' : List AObj} (hc : ACalls P f args0 H (one v H')) {dst : Option Tmp} {o : Op} {type : TypeId} {pos : String} {after : Array Edge} {guard : Option (Nat × Bool)} (h : callO F o = some (f, args))
    (hσ : sigA σ Hc H args0 args) (hv : nrm (rnV (tau σ Hc.length) v) = some v') (hH : nrmH (putBack (tau σ Hc.length) σ Hc H') = some Hc') : DSem P .m ⟨dst, o, type, pos, after, guard⟩ F Hc v' Hc' := by
  obtain ⟨h1, h2, h3, h4, h5, h6⟩ := hσ
  have hf := hc.from σ h2 h3 h4 h5 (fun i j hij => by
    have := congrArg (fun l => l[i]?) h6
    simp only [List.getElem?_map, hij, Option.map_some] at this
    cases hi : H[i]? with
    | none => rw [hi] at this; cases this
    | some o => rw [hi] at this; simpa using this)
  rw [h1] at hf
  refine callO_sem h (hf.mono ?_)
  rintro r G ⟨r0, Ho, ⟨rfl, rfl⟩, _, rfl, rfl⟩
  exact ⟨by rw [nrm_eq _ hv], (nrmH_eq hH).symm⟩
theorem jb (σ : List Nat) {f : FuncId} {args0 args : List AVal} {v v' : AVal} {H0 H1 : List AObj} (hc : ACalls P f args0 H0 (one v H1)) {s s' : Pt} {ops : Array Oper} {dst : Option Tmp} {o : Op} {type : TypeId} {pos : String} {after : Array Edge} {guard : Option (Nat × Bool)} {kk : Option K}
    (h : nextO s = some (ops, ⟨dst, o, type, pos, after, guard⟩, kk, s')) (ho : callO F o = some (f, args)) (hg : guardA ops F ⟨dst, o, type, pos, after, guard⟩ = some true) (hσ : sigA σ H H0 args0 args)
    (hv : nrm (rnV (tau σ H.length) v) = some v') (hH : nrmH (putBack (tau σ H.length) σ H H1) = some H') (hk : okK .m kk = true) (hp : putA G.n dst v' F = some F') (next : J P G Q s' F' H') : J P G Q s F H :=
  jo h hg (callB σ hc ho hσ hv hH) hk hp next
/-- .. of which it is known that it leaves boxes as they are -/
theorem jbx (σ : List Nat) {f : FuncId} {args0 args : List AVal} {v v' : AVal} {H0 H1 : List AObj} (hc : ACalls P f args0 H0 (one v H1)) {s s' : Pt} {ops : Array Oper} {dst : Option Tmp} {o : Op} {type : TypeId} {pos : String} {after : Array Edge} {guard : Option (Nat × Bool)} {kk : Option K}
    (h : nextO s = some (ops, ⟨dst, o, type, pos, after, guard⟩, kk, s')) (ho : callO F o = some (f, args)) (hg : guardA ops F ⟨dst, o, type, pos, after, guard⟩ = some true) (hσ : sigA σ H H0 args0 args)
    (hv : nrm (rnV (tau σ H.length) v) = some v') (hH : nrmH (putBack (tau σ H.length) σ H H1) = some H') (hb : SameBox H H') (hk : okK .x kk = true) (hp : putA G.n dst v' F = some F') (next : J P G Q s' F' H') : J P G Q s F H :=
  jo h hg ((callB σ hc ho hσ hv hH).x hb) hk hp next

/-- a truth value that is not known -/
theorem jif {c : Operand} {x y : Code} {b : Bool} (hc : ev F c = some (.v (.bool b))) (ht : b = true → J P G Q (.c x k) F H) (hf : b = false → J P G Q (.c y k) F H) : J P G Q (.c (.cond c x y) k) F H := aw_cond hc ht hf
def fsetO : Fr → Nat → AVal → Option Fr
  | [], _, _ => none
  | (k, x) :: r, t, v => cond (Nat.beq k t) (some ((k, v) :: r)) (match fsetO r t v with | some r' => some ((k, x) :: r') | none => none)
theorem fsetO_same : ∀ {F F' : Fr} {t : Nat} {v : AVal}, fget F t = some v → fsetO F t v = some F' → F' = F
  | [], _, _, _, h, _ => by cases h
  | (k, x) :: r, F', t, v, h, h' => by
    simp only [fget] at h
    simp only [fsetO] at h'
    cases hb : Nat.beq k t with
    | true => rw [hb] at h h'; simp at h h'; subst h; exact h'.symm
    | false =>
      rw [hb] at h h'; simp only [cond_false] at h h'
      split at h'
      · rename_i r' hr; injection h' with h'; rw [← h', fsetO_same h hr]
      · cases h'
theorem jc {c : Tmp} {x y : Code} {b : Bool} {F1 F2 : Fr} (hc : fget F c = some (.v (.bool b))) (h1 : fsetO F c (.v (.bool true)) = some F1) (h2 : fsetO F c (.v (.bool false)) = some F2)
    (ht : b = true → J P G Q (.c x k) F1 H) (hf : b = false → J P G Q (.c y k) F2 H) : J P G Q (.c (.cond (.tmp c) x y) k) F H := by
  refine jif (b := b) hc (fun h => ?_) (fun h => ?_)
  · have := ht h; subst h; rwa [fsetO_same hc h1] at this
  · have := hf h; subst h; rwa [fsetO_same hc h2] at this
def guardT (s : Pt) : Option Nat := match nextO s with
  | some (ops, o, _, _) => gtmp ops o.guard
  | none => none
theorem jg {s : Pt} {t : Nat} {b : Bool} {F1 F2 : Fr} (ht : guardT s = some t) (hb : fget F t = some (.v (.bool b))) (h1 : fsetO F t (.v (.bool true)) = some F1) (h2 : fsetO F t (.v (.bool false)) = some F2)
    (hT : b = true → J P G Q s F1 H) (hF : b = false → J P G Q s F2 H) : J P G Q s F H := by
  cases b with
  | true => rw [fsetO_same hb h1] at hT; exact hT rfl
  | false => rw [fsetO_same hb h2] at hF; exact hF rfl
/-- a truth value in a temporary, by cases -/
theorem jt {s : Pt} (t : Nat) {b : Bool} {F1 F2 : Fr} (hb : fget F t = some (.v (.bool b))) (h1 : fsetO F t (.v (.bool true)) = some F1) (h2 : fsetO F t (.v (.bool false)) = some F2)
    (hT : b = true → J P G Q s F1 H) (hF : b = false → J P G Q s F2 H) : J P G Q s F H := by
  cases b with
  | true => rw [fsetO_same hb h1] at hT; exact hT rfl
  | false => rw [fsetO_same hb h2] at hF; exact hF rfl
/-- a value in other words -/
theorem jre {s : Pt} (t : Nat) {v : AVal} (v' : AVal) (h : fget F t = some v) (hF : fsetO F t v' = some F') (e : v = v') (next : J P G Q s F' H) : J P G Q s F H := by
  subst e; rw [fsetO_same h hF] at next; exact next
theorem jheap {s : Pt} (H' : List AObj) (e : H = H') (next : J P G Q s F H') : J P G Q s F H := by subst e; exact next
theorem jfr {s : Pt} (F' : Fr) (e : F = F') (next : J P G Q s F' H) : J P G Q s F H := by subst e; exact next

/-- a loop: what is carried, and what a round makes is let go of -/
theorem jloop {c : Code} {ι : Type} (n : Nat) (I : ι → Prop) (ts : List Nat) (V : ι → List AVal) (HH : ι → List AObj) (μ : ι → Nat) (i0 : ι) (hβ : G.β0.length ≤ n) (hI : I i0) (h0 : fproj F ts = some (V i0)) (hH : H = HH i0)
    (round : ∀ i, I i → J P G Q (.c c (.lp (Round n I ts V HH μ i) k)) (ts.zip (V i)) (HH i)) : J P G Q (.c (.loop c) k) F H :=
  aw_loopF n I ts V HH μ i0 hβ hI h0 hH round
theorem jnext {ι : Type} {n : Nat} {I : ι → Prop} {ts : List Nat} {V : ι → List AVal} {HH : ι → List AObj} {μ : ι → Nat} {i : ι} (i' : ι) {vs vs' : List AVal} {H'' : List AObj} (hI : I i') (hμ : μ i' < μ i) (hp : fproj F ts = some vs)
    (hf : finish n [] true H (.tup vs) = some (.tup vs', H'')) (hn : Nat.ble n H.length = true) (hV : vs' = V i') (hH : H'' = HH i') : J P G Q (.e .normal (.lp (Round n I ts V HH μ i) k)) F H :=
  ⟨i', hI, hμ, true, vs, vs', H'', hp, hf, hn, hV, hH⟩

/-- the end of a body -/
theorem jret {tab : List TyRow} {rs : List ResultVar} {n : Nat} {E : Eff} {r r' : AVal} (ks : List Nat) (wk : Bool) (h1 : resA tab rs F H = some r) (h2 : keepOk n ks = true) (h3 : finish n ks wk H r = some (r', H'))
    (h4 : E (.ret r') H') : J P G (BodyQ tab rs n E) (.e .ret .nil) F H := bodyQ_ret ks wk h1 h2 h3 h4
theorem jend {tab : List TyRow} {rs : List ResultVar} {n : Nat} {E : Eff} {r r' : AVal} (ks : List Nat) (wk : Bool) (h1 : resA tab rs F H = some r) (h2 : keepOk n ks = true) (h3 : finish n ks wk H r = some (r', H'))
    (h4 : E (.ret r') H') : J P G (BodyQ tab rs n E) (.e .normal .nil) F H := bodyQ_end ks wk h1 h2 h3 h4
/-- .. with one outcome -/
theorem jr {tab : List TyRow} {rs : List ResultVar} {n : Nat} {r r' v : AVal} {Hv : List AObj} (h1 : resA tab rs F H = some r) (h3 : finish n [] true H r = some (r', H')) (h4 : r' = v) (h5 : H' = Hv) : J P G (BodyQ tab rs n (one v Hv)) (.e .ret .nil) F H :=
  bodyQ_ret [] true h1 rfl h3 (one_ok h4.symm.symm h5)
theorem jn {tab : List TyRow} {rs : List ResultVar} {n : Nat} {r r' v : AVal} {Hv : List AObj} (h1 : resA tab rs F H = some r) (h3 : finish n [] true H r = some (r', H')) (h4 : r' = v) (h5 : H' = Hv) : J P G (BodyQ tab rs n (one v Hv)) (.e .normal .nil) F H :=
  bodyQ_end [] true h1 rfl h3 (one_ok h4.symm.symm h5)

/-- A FUNCTION's CONTRACT, by a walk through its body. -/
theorem jcalls [T : TyTab P] {f : FuncId} {fn : Func} {c : Code} {args : List AVal} {Q : Eff} {N : Nat} {rs : List ResultVar} (hf : P.funcs[f]? = some fn) (hb : fn.body = some c) (hname : (fn.name == "runtime.NumGoroutine") = false)
    (hN : fn.ntmps = N) (hl : Nat.ble args.length N = true) (hrs : fn.results.toList = rs)
    (h : ∀ w0 β0 ext, β0.length = H.length → J P ⟨w0, β0, ext, N, []⟩ (BodyQ T.tab rs H.length Q) (.c c .nil) (params 0 args) H) : ACalls P f args H Q :=
  acalls_intro hf hb hname hN hl hrs h

/-- an operation with several outcomes -/
theorem jq {s s' : Pt} {ops : Array Oper} {d : Tmp} {o : Op} {type : TypeId} {pos : String} {after : Array Edge} {guard : Option (Nat × Bool)} {res : Eff} (h : nextO s = some (ops, ⟨some d, o, type, pos, after, guard⟩, none, s')) (hg : guardA ops F ⟨some d, o, type, pos, after, guard⟩ = some true)
    (hd : Nat.blt d G.n = true) (ho : OpSem P ⟨some d, o, type, pos, after, guard⟩ F H res) (next : ∀ r H', res r H' → ∃ v, r = .ret v ∧ J P G Q s' ((d, v) :: F) H') : J P G Q s F H := by
  cases s with
  | c => cases h
  | e => cases h
  | l os l k =>
    simp only [nextO] at h
    split at h
    · cases h
    · injection h with h; injection h with h2 h3; injection h3 with h3 h4; injection h4 with h4 h5; subst h2; subst h3; subst h5
      exact awl_q hd hg ho next
  | d os l k =>
    simp only [nextO] at h
    split at h
    · cases h
    · injection h with h; injection h with h2 h3; injection h3 with h3 h4; injection h4 with h4 h5; cases h4

/-- an empty slice without room is taken for an owned one -/
theorem jadopt {c : Code} (ts : List Nat) (bt : TypeId) (es : Nat) (hts : fproj F ts = some (ts.map fun _ => .slf [])) (h : J P G Q (.c c k) (ts.map (·, .arr H.length 1) ++ F) (H ++ [.arr 1 bt es []])) : J P G Q (.c c k) F H := aw_adopt ts bt es hts h
theorem jpublish {c : Code} (ts : List Nat) {j g es : Nat} {t : TypeId} {xs : List AVal} (g' : Nat) (hg' : Nat.blt g g' = true) (hts : fproj F ts = some (ts.map fun _ => .arr j g)) (t0 : Nat) (h0 : fget F t0 = some (.arr j g)) (hj : H[j]? = some (.arr g t es xs))
    (h : J P G Q (.c c k) (ts.map (·, .sl xs) ++ F) (H.set j (.dead g'))) : J P G Q (.c c k) F H := aw_publish ts g' hg' hts t0 h0 hj h
end
end Go.AL
