/-
  Calls: what a function does, told of its arguments and of the owned things that it is handed; a function's body; a call from a greater heap. No conditions.
-/
import Derived.Test.YthogeodbnnfamaaA11
set_option linter.unusedVariables false
set_option linter.unusedSimpArgs false
namespace Go.AL
open Go

section
variable {P : Program}

def Enters (P : Program) (f : FuncId) : Prop := ∃ fn, P.funcs[f]? = some fn ∧ (fn.name == "runtime.NumGoroutine") = false ∧ fn.body.isNone = false

structure ACalls (P : Program) (f : FuncId) (args : List AVal) (H : List AObj) (Q : Eff) : Prop where
  enters : Enters P f
  calls : ∀ (ext : Nat → Prop) (w : World) (β : List Ent) (us : List Value), Inv ext w H β → (∀ b, ext b → b < w.heap.size) → RelL (ctx ext w β) args us → Calls P f us.toArray w (Ended ext w β Q)

theorem Came.mono {ext : Nat → Prop} {w : World} {β : List Ent} {Q Q' : Eff} {k : AVal → ARes} {u : Value} {w' : World} (hq : ∀ r H, Q r H → Q' r H) (h : Came ext w β Q k u w') : Came ext w β Q' k u w' := by
  obtain ⟨v, H', β', h1, h2⟩ := h
  exact ⟨v, H', β', hq _ _ h1, h2⟩

theorem Ended.mono {ext : Nat → Prop} {w : World} {β : List Ent} {Q Q' : Eff} (hq : ∀ r H, Q r H → Q' r H) : ∀ {e : Ending} {w' : World}, Ended ext w β Q e w' → Ended ext w β Q' e w'
  | .returned u, w', h => Came.mono hq h
  | .panicked ch, w', ⟨u, h1, h2⟩ => ⟨u, h1, Came.mono hq h2⟩
  | .outgrown, _, h => h

theorem ACalls.mono {f : FuncId} {args : List AVal} {H : List AObj} {Q Q' : Eff} (h : ACalls P f args H Q) (hq : ∀ r H, Q r H → Q' r H) : ACalls P f args H Q' :=
  ⟨h.enters, fun ext w β us hI hx hr => (h.calls ext w β us hI hx hr).mono fun e w' he => Ended.mono hq he⟩

theorem callFunc_run {f : FuncId} (h : Enters P f) (args : Array Value) (w : World) : (callFunc f args).run P w = .ok (.enter f args) w := by
  obtain ⟨fn, h1, h2, h3⟩ := h
  unfold callFunc
  simp only [Sem.run_bind, run_program, Result.andThen_ok, h1, h2, h3, Bool.false_eq_true, if_false, Sem.run_pure]

/-- a call through a function's value -/
theorem call_sem {dst : Option Tmp} {fo : Operand} {args : Array Operand} {argTypes : Array TypeId} {type : TypeId} {pos : String} {after : Array Edge} {guard : Option (Nat × Bool)} {F : Fr} {H : List AObj} {g : FuncId} {first vs cap : List AVal} {Q : Eff}
    (hf : ev F fo = some (.fn (.func g) first cap)) (ha : evs F args.toList = some vs) (hc : ACalls P g (first ++ vs ++ cap) H Q) :
    OpSem P ⟨dst, .call { callee := .value fo, args, argTypes }, type, pos, after, guard⟩ F H Q := by
  intro ext w β ρ hI hext hκ hρ
  obtain ⟨a1, a2, hu, r1, r2⟩ := hρ fo (by simp [Op.operands, Call.operands]) _ hf
  have r3 := evs_rel (c := ctx ext w β) (ρ := ρ) (fun x hx => hρ x (by simp [Op.operands, Call.operands]; exact .inr (by simpa using hx))) ha
  have h4 : (execOp ρ ⟨dst, .call { callee := .value fo, args, argTypes }, type, pos, after, guard⟩).run P w = .ok (.enter g (a1 ++ args.map ρ ++ a2)) w := by
    simp only [execOp, resolve, hu, Deferred.ofValue, Sem.run_bind, Sem.run_pure, Result.andThen_ok, invoke]
    exact callFunc_run hc.enters _ w
  rw [h4]
  have he : (a1.toList ++ args.toList.map ρ ++ a2.toList).toArray = a1 ++ args.map ρ ++ a2 := by apply Array.ext'; simp
  have h5 := hc.calls ext w β (a1.toList ++ args.toList.map ρ ++ a2.toList) hI hext ((r1.append r3).append r2)
  rw [he] at h5
  exact h5

/-! ### a function's body -/
def params (k : Nat) : List AVal → Fr
  | [] => []
  | v :: vs => (k, v) :: params (k + 1) vs

theorem params_get : ∀ {vs : List AVal} {k t : Nat} {v : AVal}, fget (params k vs) t = some v → k ≤ t ∧ vs[t - k]? = some v
  | [], k, t, v, h => by cases h
  | x :: xs, k, t, v, h => by
    simp only [params, fget] at h
    cases hb : Nat.beq k t with
    | true =>
      rw [hb] at h; simp at h; subst h
      have := Nat.eq_of_beq_eq_true hb
      subst this
      simp
    | false =>
      rw [hb] at h; simp at h
      obtain ⟨h1, h2⟩ := params_get h
      refine ⟨by omega, ?_⟩
      rw [show t - k = (t - (k + 1)) + 1 by omega]
      simpa using h2

def resA1 (tab : List TyRow) (F : Fr) (H : List AObj) : ResultVar → Option AVal
  | .tmp t => fget F t
  | .cell a t => loadB tab (.load t (.tmp a)) F H
def resAs (tab : List TyRow) (F : Fr) (H : List AObj) : List ResultVar → Option (List AVal)
  | [] => some []
  | r :: rs => match resA1 tab F H r, resAs tab F H rs with
    | some v, some vs => some (v :: vs)
    | _, _ => none
def resA (tab : List TyRow) (rs : List ResultVar) (F : Fr) (H : List AObj) : Option AVal :=
  match resAs tab F H rs with
  | some [v] => some v
  | some vs => some (.tup vs)
  | none => none

/-- which owned things stay, and under which number -/
def kap (n : Nat) (ks : List Nat) (i : Nat) : Option Nat := cond (Nat.blt i n) (some i) (posIn ks n)
where posIn : List Nat → Nat → Option Nat
  | [], _ => none
  | k :: ks, m => cond (Nat.beq k i) (some m) (posIn ks (m + 1))

mutual
def finV (κ : Nat → Option Nat) (H : List AObj) (wk : Bool) : AVal → Option AVal
  | .v x => some (.v x)
  | .agg cs => (finL κ H wk cs).map .agg
  | .tup cs => (finL κ H wk cs).map .tup
  | .sl xs => some (.sl xs)
  | .slf xs => some (cond wk (.sl xs) (.slf xs))
  | .arr j g => match κ j with
    | some j' => some (.arr j' g)
    | none => match H[j]? with
      | some (.arr g' _ _ xs) => cond (Nat.beq g g') (some (.sl xs)) none
      | _ => none
  | .ptr j off => (κ j).map (.ptr · off)
  | .pp cs off => some (.pp cs off)
  | .ep j g k off => (κ j).map (.ep · g k off)
  | .fn f a b => match finL κ H wk a, finL κ H wk b with
    | some a', some b' => some (.fn f a' b')
    | _, _ => none
  | .mp j => (κ j).map .mp
  | .hd j g off len => (κ j).map (.hd · g off len)
  | .ifc t x => (finV κ H wk x).map (.ifc t)
def finL (κ : Nat → Option Nat) (H : List AObj) (wk : Bool) : List AVal → Option (List AVal)
  | [] => some []
  | x :: xs => match finV κ H wk x, finL κ H wk xs with
    | some v, some vs => some (v :: vs)
    | _, _ => none
end

theorem sl_weak {c : Ctx} {xs : List AVal} {u : Value} (h : Rel c (.slf xs) u) : Rel c (.sl xs) u := by
  obtain ⟨A, es, h1, h2, h3⟩ := h
  exact ⟨A, _, es, h1, Nat.le_refl _, h2, h3⟩

structure FinOk (ext : Nat → Prop) (w : World) (H : List AObj) (β β' : List Ent) (κ : Nat → Option Nat) : Prop where
  map : ∀ (i j : Nat) (e : Ent), κ i = some j → β[i]? = some e → β'[j]? = some e
  sub : ∀ b, Blk β' b → Blk β b
  gone : ∀ (i : Nat) (e : Ent) (b : Nat), κ i = none → β[i]? = some e → e.blk = some b → ¬ Blk β' b

theorem FinOk.le {ext : Nat → Prop} {w : World} {H : List AObj} {β β' : List Ent} {κ : Nat → Option Nat} (h : FinOk ext w H β β' κ) : Ctx.le { ctx ext w β with β := [] } { ctx ext w β' with β := [] } :=
  ⟨fun b hb1 hb2 => ⟨hb1, fun hb => hb2 (hb.imp id (h.sub b)), rfl⟩, fun (j : Nat) (e : Ent) he => by simp at he⟩

mutual
theorem finV_rel {ext : Nat → Prop} {w : World} {H : List AObj} {β β' : List Ent} {κ : Nat → Option Nat} {wk : Bool} (hI : Inv ext w H β) (hk : FinOk ext w H β β' κ) :
    ∀ (a : AVal) (a' : AVal) (u : Value), finV κ H wk a = some a' → Rel (ctx ext w β) a u → Rel (ctx ext w β') a' u
  | .v x, a', u, h, r => by simp [finV] at h; subst h; exact r
  | .agg cs, a', u, h, r => by
    obtain ⟨ua, e, r⟩ := r
    simp only [finV] at h
    cases hl : finL κ H wk cs with
    | none => rw [hl] at h; cases h
    | some cs' => rw [hl] at h; simp at h; subst h; exact ⟨ua, e, finL_rel hI hk cs cs' _ hl r⟩
  | .tup cs, a', u, h, r => by
    obtain ⟨ua, e, r⟩ := r
    simp only [finV] at h
    cases hl : finL κ H wk cs with
    | none => rw [hl] at h; cases h
    | some cs' => rw [hl] at h; simp at h; subst h; exact ⟨ua, e, finL_rel hI hk cs cs' _ hl r⟩
  | .sl xs, a', u, h, r => by
    simp [finV] at h; subst h
    obtain ⟨A, m, es, h1, h2, h3, h4⟩ := r
    exact ⟨A, m, es, h1, h2, fun hx => by
      obtain ⟨b, o, e1, e2, e3⟩ := h3 hx
      exact ⟨b, o, e1, fun hb => e2 (hb.imp id (hk.sub b)), e3⟩, h4.le hk.le _ _ _ _⟩
  | .slf xs, a', u, h, r => by
    have r' : Rel (ctx ext w β') (.slf xs) u := by
      obtain ⟨A, es, h1, h3, h4⟩ := r
      exact ⟨A, es, h1, fun hx => by
        obtain ⟨b, o, e1, e2, e3⟩ := h3 hx
        exact ⟨b, o, e1, fun hb => e2 (hb.imp id (hk.sub b)), e3⟩, h4.le hk.le _ _ _ _⟩
    simp [finV] at h; subst h
    cases wk with
    | true => exact sl_weak r'
    | false => exact r'
  | .arr j g, a', u, h, r => by
    simp only [finV] at h
    cases hj : κ j with
    | some j' =>
      rw [hj] at h; simp at h; subst h
      obtain ⟨h0, e, he, hg, hu⟩ := r
      exact ⟨h0, e, hk.map j j' e hj he, hg, hu⟩
    | none =>
      rw [hj] at h
      simp only at h
      split at h
      · rename_i g' t es xs hH
        cases hb : Nat.beq g g' with
        | false => rw [hb] at h; cases h
        | true =>
          rw [hb] at h; simp at h; subst h
          have := Nat.eq_of_beq_eq_true hb
          subst this
          obtain ⟨ent, e1, e2, e3, e4, e5, e6, h7⟩ := arr_open hI hH r
          rcases h7 with ⟨_, h8, _, A, h9⟩ | ⟨b, us, h8, h9, h10, h11, h12⟩
          · subst h8
            exact ⟨A, 0, 0, h9, Nat.le_refl _, fun hx => absurd rfl hx, trivial⟩
          · refine ⟨_, ent.cap, es, h9, e6, fun _ => ⟨b, 0, rfl, ?_, (hI.sep b ⟨j, ent, e1, h8⟩).2⟩, ?_⟩
            · rintro (hb | hb)
              · exact (hI.sep b ⟨j, ent, e1, h8⟩).1 hb
              · exact hk.gone j ent b hj e1 h8 hb
            · have : rdA w (some ⟨b, 0, none⟩) = fun (i : Nat) => us[i]? := by
                funext i
                simp [rdA, World.cell?, h10]
              show RelR _ es (rdA w (some ⟨b, 0, none⟩)) 0 xs
              rw [this]
              exact h12.le hk.le _ _ _ _
      · cases h
  | .ptr j off, a', u, h, r => by
    simp only [finV] at h
    cases hj : κ j with
    | none => rw [hj] at h; cases h
    | some j' =>
      rw [hj] at h; simp at h; subst h
      obtain ⟨e, b, he, h0, hb, hu⟩ := r
      exact ⟨e, b, hk.map j j' e hj he, h0, hb, hu⟩
  | .pp cs off, a', u, h, r => by
    simp [finV] at h; subst h
    obtain ⟨b, o, us, h1, h2, h3, h4, h5⟩ := r
    exact ⟨b, o, us, h1, fun hb => h2 (hb.imp id (hk.sub b)), h3, h4.le hk.le, h5⟩
  | .ep j g k off, a', u, h, r => by
    simp only [finV] at h
    cases hj : κ j with
    | none => rw [hj] at h; cases h
    | some j' =>
      rw [hj] at h; simp at h; subst h
      obtain ⟨h0, e, he, hg, hu⟩ := r
      exact ⟨h0, e, hk.map j j' e hj he, hg, hu⟩
  | .fn f a b, a', u, h, r => by
    simp only [finV] at h
    obtain ⟨a1, a2, e, r1, r2⟩ := r
    cases h1 : finL κ H wk a with
    | none => rw [h1] at h; cases h
    | some x =>
      cases h2 : finL κ H wk b with
      | none => rw [h1, h2] at h; cases h
      | some y =>
        rw [h1, h2] at h; simp at h; subst h
        exact ⟨a1, a2, e, finL_rel hI hk a x _ h1 r1, finL_rel hI hk b y _ h2 r2⟩
  | .hd j g off len, a', u, h, r => by
    simp only [finV] at h
    cases hj : κ j with
    | none => rw [hj] at h; cases h
    | some j' =>
      rw [hj] at h; simp at h; subst h
      obtain ⟨h0, e, he, hg, hu⟩ := r
      exact ⟨h0, e, hk.map j j' e hj he, hg, hu⟩
  | .mp j, a', u, h, r => by
    simp only [finV] at h
    cases hj : κ j with
    | none => rw [hj] at h; cases h
    | some j' =>
      rw [hj] at h; simp at h; subst h
      obtain ⟨e, b, he, h0, hb, hu⟩ := r
      exact ⟨e, b, hk.map j j' e hj he, h0, hb, hu⟩
  | .ifc t x, a', u, h, r => by
    simp only [finV] at h
    obtain ⟨y, e, r⟩ := r
    cases h1 : finV κ H wk x with
    | none => rw [h1] at h; cases h
    | some x' => rw [h1] at h; simp at h; subst h; exact ⟨y, e, finV_rel hI hk x x' y h1 r⟩
theorem finL_rel {ext : Nat → Prop} {w : World} {H : List AObj} {β β' : List Ent} {κ : Nat → Option Nat} {wk : Bool} (hI : Inv ext w H β) (hk : FinOk ext w H β β' κ) :
    ∀ (as as' : List AVal) (us : List Value), finL κ H wk as = some as' → RelL (ctx ext w β) as us → RelL (ctx ext w β') as' us
  | [], as', us, h, r => by simp [finL] at h; subst h; exact r
  | x :: xs, as', us, h, r => by
    obtain ⟨u, us', e, r, rs⟩ := r
    simp only [finL] at h
    cases h1 : finV κ H wk x with
    | none => rw [h1] at h; cases h
    | some v =>
      cases h2 : finL κ H wk xs with
      | none => rw [h1, h2] at h; cases h
      | some vs =>
        rw [h1, h2] at h; simp at h; subst h
        exact ⟨u, us', e, finV_rel hI hk x v u h1 r, finL_rel hI hk xs vs us' h2 rs⟩
end

def finM (κ : Nat → Option Nat) (H : List AObj) (wk : Bool) : List (Value × AVal × Nat) → Option (List (Value × AVal × Nat))
  | [] => some []
  | (k, x, n) :: es => match finV κ H wk x, finM κ H wk es with
    | some v, some vs => some ((k, v, n) :: vs)
    | _, _ => none

def finO (κ : Nat → Option Nat) (H : List AObj) (wk : Bool) : AObj → Option AObj
  | .box t cs => match finL κ H wk cs with
    | some cs' => cond (cs'.all AVal.one) (some (.box t cs')) none
    | none => none
  | .map es c => (finM κ H wk es).map (.map · c)
  | o => some o

theorem finM_rel {ext : Nat → Prop} {w : World} {H : List AObj} {β β' : List Ent} {κ : Nat → Option Nat} {wk : Bool} (hI : Inv ext w H β) (hk : FinOk ext w H β β' κ) :
    ∀ (es es' : List (Value × AVal × Nat)) (ms : List MapEntry), finM κ H wk es = some es' → RelM (ctx ext w β) es ms → RelM (ctx ext w β') es' ms
  | [], es', ms, h, r => by simp [finM] at h; subst h; exact r
  | (k, x, n) :: es, es', ms, h, r => by
    obtain ⟨m, ms', e, e1, e2, r, rs⟩ := r
    simp only [finM] at h
    cases h1 : finV κ H wk x with
    | none => rw [h1] at h; cases h
    | some v =>
      cases h2 : finM κ H wk es with
      | none => rw [h1, h2] at h; cases h
      | some vs =>
        rw [h1, h2] at h; simp at h; subst h
        exact ⟨m, ms', e, e1, e2, finV_rel hI hk x v _ h1 r, finM_rel hI hk es vs ms' h2 rs⟩

theorem finO_rel {ext : Nat → Prop} {w : World} {H : List AObj} {β β' : List Ent} {κ : Nat → Option Nat} {wk : Bool} (hI : Inv ext w H β) (hk : FinOk ext w H β β' κ) {e : Ent} {o o' : AObj} (h : finO κ H wk o = some o')
    (r : RelO (ctx ext w β) e o) : RelO (ctx ext w β') e o' := by
  cases o with
  | box t cs =>
    simp only [finO] at h
    cases h1 : finL κ H wk cs with
    | none => rw [h1] at h; cases h
    | some cs' =>
      rw [h1] at h
      simp only at h
      cases h2 : cs'.all AVal.one with
      | false => rw [h2] at h; cases h
      | true =>
        rw [h2] at h; simp at h; subst h
        obtain ⟨r1, r2, b, us, r3, r4, r5⟩ := r
        exact ⟨r1, h2, b, us, r3, r4, finL_rel hI hk cs cs' _ h1 r5⟩
  | arr g t es xs =>
    simp only [finO] at h
    injection h with h; subst h
    obtain ⟨k1, k0, k2, k3, k4, k5⟩ := r
    refine ⟨k1, k0, k2, k3, k4, ?_⟩
    cases hb : e.blk with
    | none => rw [hb] at k5; exact k5
    | some b =>
      rw [hb] at k5
      obtain ⟨us, w1, w2, w3⟩ := k5
      exact ⟨us, w1, w2, w3.le hk.le _ _ _ _⟩
  | raw x => simp only [finO] at h; injection h with h; subst h; exact r
  | map es c =>
    simp only [finO] at h
    cases h1 : finM κ H wk es with
    | none => rw [h1] at h; cases h
    | some es' =>
      rw [h1] at h; simp at h; subst h
      obtain ⟨r1, b, ms, r3, r4, r5⟩ := r
      exact ⟨r1, b, ms, r3, r4, finM_rel hI hk es es' _ h1 r5⟩
  | dead g => simp only [finO] at h; injection h with h; subst h; exact r
  | row g t es xs =>
    simp only [finO] at h; injection h with h; subst h
    obtain ⟨h1, h0, h2, hl, h3, b, us, h4, h5, h6, h7⟩ := r
    exact ⟨h1, h0, h2, hl, h3, b, us, h4, h5, h6, h7.le hk.le _ _ _ _⟩

def finOs (κ : Nat → Option Nat) (H : List AObj) (wk : Bool) : List AObj → Option (List AObj)
  | [] => some []
  | o :: os => match finO κ H wk o, finOs κ H wk os with
    | some v, some vs => some (v :: vs)
    | _, _ => none

def picks {α : Type} (l : List α) : List Nat → Option (List α)
  | [] => some []
  | k :: ks => match l[k]?, picks l ks with
    | some v, some vs => some (v :: vs)
    | _, _ => none

/-- the heap and the value that a function leaves behind: the first n things, and those that are named -/
def finish (n : Nat) (ks : List Nat) (wk : Bool) (H : List AObj) (r : AVal) : Option (AVal × List AObj) :=
  match finV (kap n ks) H wk r, picks H ks with
  | some r', some hs => match finOs (kap n ks) H wk (H.take n ++ hs) with
    | some H' => some (r', H')
    | none => none
  | _, _ => none
end
end Go.AL
