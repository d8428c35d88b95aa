/-
  Abstract states of a function at work, the rules for code, and what a call does. No conditions.
-/
import Derived.Test.YthogeodbnnfamaaA2
import Derived.Deep.LoopGhost
set_option linter.unusedVariables false
namespace Go.AL
open Go

abbrev Fr := List (Nat × AVal)

def fget : Fr → Nat → Option AVal
  | [], _ => none
  | (k, v) :: r, t => cond (Nat.beq k t) (some v) (fget r t)

def fput (F : Fr) (d : Option Tmp) (v : AVal) : Fr :=
  match d with
  | some d => (d, v) :: F
  | none => F

def constA : Value → AVal
  | .slice none 0 0 => .slf []
  | v => .v v

def ev (F : Fr) : Operand → Option AVal
  | .tmp t => fget F t
  | .const v => some (constA v)
  | .func f => some (.fn (.func f) [] [])
  | .global _ => none

theorem constA_rel (c : Ctx) (v : Value) : Rel c (constA v) v := by
  unfold constA
  split
  · exact ⟨none, 0, rfl, fun h => absurd rfl h, trivial⟩
  · rfl

structure Gh where
  w0 : World
  β0 : List Ent
  ext : Nat → Prop
  n : Nat
  defers : List Deferred := []

structure StB (G : Gh) (β : List Ent) (F : Fr) (H : List AObj) (a : Act) (w : World) : Prop where
  inv : Inv G.ext w H β
  step : Step G.w0 G.β0 w β
  extOk : ∀ b, G.ext b → b < w.heap.size
  size : a.tmps.size = G.n
  defers : a.defers = G.defers
  get : ∀ (t : Nat) (v : AVal), fget F t = some v → ∃ u, a.tmps[t]? = some u ∧ Rel (ctx G.ext w β) v u

def St (G : Gh) (F : Fr) (H : List AObj) (a : Act) (w : World) : Prop := ∃ β, StB G β F H a w

theorem StB.ev {G : Gh} {β : List Ent} {F : Fr} {H : List AObj} {a : Act} {w : World} (h : StB G β F H a w) {x : Operand} {v : AVal} (hx : ev F x = some v) :
    Rel (ctx G.ext w β) v (a.eval x) := by
  cases x with
  | tmp t =>
    obtain ⟨u, h1, h2⟩ := h.get t v hx
    simpa [Act.eval, Array.getD, h1] using (show Rel _ v (a.tmps.getD t undef) by rw [Array.getD_eq_getD_getElem?, h1]; exact h2)
  | const u => simp [AL.ev] at hx; subst hx; exact constA_rel _ _
  | global g => simp [AL.ev] at hx
  | func f => simp [AL.ev] at hx; subst hx; exact ⟨#[], #[], rfl, rfl, rfl⟩

/-- the world has changed, the frame has not -/
theorem StB.world {G : Gh} {β β' : List Ent} {F : Fr} {H H' : List AObj} {a : Act} {w w' : World} (h : StB G β F H a w) (hi : Inv G.ext w' H' β') (hs : Step w β w' β') : StB G β' F H' a w' where
  inv := hi
  step := h.step.trans hs
  extOk := fun b hb => Nat.lt_of_lt_of_le (h.extOk b hb) hs.size
  size := h.size
  defers := h.defers
  get := fun t v ht => by
    obtain ⟨u, h1, h2⟩ := h.get t v ht
    exact ⟨u, h1, h2.le hs.le⟩

theorem StB.put {G : Gh} {β : List Ent} {F : Fr} {H : List AObj} {a : Act} {w : World} (h : StB G β F H a w) {d : Option Tmp} {v : AVal} {u : Value}
    (hr : Rel (ctx G.ext w β) v u) (hd : ∀ t, d = some t → t < G.n) : StB G β (fput F d v) H (a.put d u) w := by
  cases d with
  | none => exact h
  | some t =>
    refine ⟨h.inv, h.step, h.extOk, by simp [Act.put, h.size], h.defers, fun s x hs => ?_⟩
    have ht : t < a.tmps.size := by rw [h.size]; exact hd t rfl
    simp only [fput, fget] at hs
    cases hb : Nat.beq t s with
    | true =>
      have : t = s := Nat.eq_of_beq_eq_true hb
      subst this
      rw [hb] at hs; simp at hs; subst hs
      exact ⟨u, by simp [Act.put, ht], hr⟩
    | false =>
      have hne : t ≠ s := fun e => by subst e; simp at hb
      rw [hb] at hs; simp at hs
      obtain ⟨y, h1, h2⟩ := h.get s x hs
      exact ⟨y, by simp [Act.put, Array.getElem?_setIfInBounds_ne hne, h1], h2⟩

/-- an unwanted operation leaves 'undef' -/
theorem StB.undef {G : Gh} {β : List Ent} {F : Fr} {H : List AObj} {a : Act} {w : World} (h : StB G β F H a w) {d : Option Tmp} (hd : ∀ t, d = some t → t < G.n) :
    StB G β (fput F d (.tup [])) H (a.put d Go.undef) w := h.put (v := .tup []) (u := Go.undef) ⟨#[], rfl, rfl⟩ hd

inductive AExit where
  | normal
  | exit (id : Nat)
  | ret
  | panic (v : AVal)

abbrev APost := AExit → Fr → List AObj → Prop

def lift (G : Gh) (Q : APost) : Exit → Act → World → Prop
  | .normal, a, w => ∃ F H, Q .normal F H ∧ St G F H a w
  | .exit id, a, w => ∃ F H, Q (.exit id) F H ∧ St G F H a w
  | .ret, a, w => ∃ F H, Q .ret F H ∧ St G F H a w
  | .panic ch, a, w => ∃ v F H β u, Q (.panic v) F H ∧ StB G β F H a w ∧ ch = [{ v := u, recovered := false }] ∧ Rel (ctx G.ext w β) v u
  | .goto _, _, _ => False
  | .outgrown, _, _ => False

def AW (P : Program) (G : Gh) (c : Code) (Q : APost) (F : Fr) (H : List AObj) : Prop := ∀ a w, St G F H a w → c.wp P (lift G Q) a w

section
variable {P : Program} {G : Gh} {Q Q' : APost} {F F' : Fr} {H H' : List AObj}

theorem lift_mono (hq : ∀ e F H, Q e F H → Q' e F H) : ∀ e a w, lift G Q e a w → lift G Q' e a w
  | .normal, _, _, ⟨F, H, h, s⟩ => ⟨F, H, hq _ _ _ h, s⟩
  | .exit _, _, _, ⟨F, H, h, s⟩ => ⟨F, H, hq _ _ _ h, s⟩
  | .ret, _, _, ⟨F, H, h, s⟩ => ⟨F, H, hq _ _ _ h, s⟩
  | .panic _, _, _, ⟨v, F, H, β, u, h, s⟩ => ⟨v, F, H, β, u, hq _ _ _ h, s⟩
  | .goto _, _, _, h => h.elim
  | .outgrown, _, _, h => h.elim

theorem AW.mono {c : Code} (h : AW P G c Q F H) (hq : ∀ e F H, Q e F H → Q' e F H) : AW P G c Q' F H :=
  fun a w hs => wp_mono (h a w hs) (lift_mono hq)

theorem aw_skip (h : Q .normal F H) : AW P G .skip Q F H := fun a w hs => wp_skip ⟨F, H, h, hs⟩
theorem aw_ret (h : Q .ret F H) : AW P G .ret Q F H := fun a w hs => wp_ret ⟨F, H, h, hs⟩
theorem aw_exit {id : Nat} (h : Q (.exit id) F H) : AW P G (.exit id) Q F H := fun a w hs => wp_exit ⟨F, H, h, hs⟩

def athen (K : Fr → List AObj → Prop) (Q : APost) : APost
  | .normal, F, H => K F H
  | e, F, H => Q e F H

theorem aw_seq {x y : Code} (h : AW P G x (athen (fun F H => AW P G y Q F H) Q) F H) : AW P G (.seq x y) Q F H := by
  intro a w hs
  refine wp_seq (wp_mono (h a w hs) ?_)
  intro e a' w' he
  cases e with
  | normal => obtain ⟨F', H', h1, h2⟩ := he; exact h1 a' w' h2
  | exit id => exact he
  | ret => exact he
  | panic ch => exact he
  | goto l => exact he.elim
  | outgrown => exact he.elim

def ablock (id : Nat) (Q : APost) : APost
  | .exit id', F, H => cond (Nat.beq id' id) (Q .normal F H) (Q (.exit id') F H)
  | e, F, H => Q e F H

theorem aw_block {id : Nat} {c : Code} (h : AW P G c (ablock id Q) F H) : AW P G (.block id c) Q F H := by
  intro a w hs
  refine wp_block (wp_mono (h a w hs) ?_)
  intro e a' w' he
  cases e with
  | normal => exact he
  | exit id' =>
    obtain ⟨F', H', h1, h2⟩ := he
    simp only [ablock] at h1
    by_cases hid : id' = id
    · subst hid
      rw [show Nat.beq id' id' = true by simp] at h1
      simp only [Exit.inBlock, if_true]
      exact ⟨F', H', h1, h2⟩
    · have : Nat.beq id' id = false := by
        cases hb : Nat.beq id' id with
        | false => rfl
        | true => exact absurd (Nat.eq_of_beq_eq_true hb) hid
      rw [this] at h1
      simp only [Exit.inBlock, if_neg hid]
      exact ⟨F', H', h1, h2⟩
  | ret => exact he
  | panic ch => exact he
  | goto l => exact he.elim
  | outgrown => exact he.elim

theorem aw_cond {c : Operand} {x y : Code} {b : Bool} (hc : ev F c = some (.v (.bool b))) (ht : b = true → AW P G x Q F H) (hf : b = false → AW P G y Q F H) :
    AW P G (.cond c x y) Q F H := by
  intro a w hs
  obtain ⟨β, hs'⟩ := hs
  have h1 : a.eval c = .bool b := hs'.ev hc
  exact wp_cond_split h1 (fun h => ht h a w ⟨β, hs'⟩) (fun h => hf h a w ⟨β, hs'⟩)
theorem aw_cond_t {c : Operand} {x y : Code} (hc : ev F c = some (.v (.bool true))) (ht : AW P G x Q F H) : AW P G (.cond c x y) Q F H :=
  aw_cond hc (fun _ => ht) (fun h => by cases h)
theorem aw_cond_f {c : Operand} {x y : Code} (hc : ev F c = some (.v (.bool false))) (ht : AW P G y Q F H) : AW P G (.cond c x y) Q F H :=
  aw_cond hc (fun h => by cases h) (fun _ => ht)

/-- what is known of the frame is forgotten in part -/
theorem aw_frame {c : Code} (F' : Fr) (hF : ∀ t v, fget F' t = some v → fget F t = some v) (h : AW P G c Q F' H) : AW P G c Q F H :=
  fun a w ⟨β, hs⟩ => h a w ⟨β, hs.inv, hs.step, hs.extOk, hs.size, hs.defers, fun t v ht => hs.get t v (hF t v ht)⟩

def fproj (F : Fr) : List Nat → Option (List AVal)
  | [] => some []
  | t :: ts => match fget F t, fproj F ts with
    | some v, some vs => some (v :: vs)
    | _, _ => none

theorem fproj_zip : ∀ {ts : List Nat} {vs : List AVal}, fproj F ts = some vs → ∀ t v, fget (ts.zip vs) t = some v → fget F t = some v
  | [], vs, h, t, v, ht => by simp [fget] at ht
  | s :: ts, vs, h, t, v, ht => by
    simp only [fproj] at h
    cases h1 : fget F s with
    | none => rw [h1] at h; cases h
    | some x =>
      cases h2 : fproj F ts with
      | none => rw [h1, h2] at h; cases h
      | some xs =>
        rw [h1, h2] at h; simp at h; subst h
        simp only [List.zip_cons_cons, fget] at ht
        cases hb : Nat.beq s t with
        | true => rw [hb] at ht; simp at ht; subst ht; rw [← Nat.eq_of_beq_eq_true hb]; exact h1
        | false => rw [hb] at ht; simp at ht; exact fproj_zip h2 t v ht

theorem StB.proj {β : List Ent} {a : Act} {w : World} (h : StB G β F H a w) {ts : List Nat} {vs : List AVal} (hp : fproj F ts = some vs) : StB G β (ts.zip vs) H a w :=
  ⟨h.inv, h.step, h.extOk, h.size, h.defers, fun t v ht => h.get t v (fproj_zip hp t v ht)⟩

theorem aw_cut {c : Code} (ts : List Nat) {vs : List AVal} (hp : fproj F ts = some vs) (h : AW P G c Q (ts.zip vs) H) : AW P G c Q F H :=
  fun a w ⟨β, hs⟩ => h a w ⟨β, hs.proj hp⟩

/-- A loop: the states at its head are told by an index; each round lowers the measure. -/
theorem aw_loop {c : Code} {ι : Type} (ts : List Nat) (V : ι → List AVal) (HH : ι → List AObj) (μ : ι → Nat) (i0 : ι) (h0 : fproj F ts = some (V i0)) (hH : H = HH i0)
    (round : ∀ i, AW P G c (athen (fun F' H' => ∃ i', fproj F' ts = some (V i') ∧ H' = HH i' ∧ μ i' < μ i) Q) (ts.zip (V i)) (HH i)) : AW P G (.loop c) Q F H := by
  intro a w ⟨β, hs⟩
  refine wp_loop_ghost (fun n a w => ∃ i, μ i = n ∧ St G (ts.zip (V i)) (HH i) a w) (μ i0) ⟨i0, rfl, β, by subst hH; exact hs.proj h0⟩ ?_
  rintro n a w ⟨i, hi, hst⟩
  refine wp_mono (round i a w hst) ?_
  intro e a' w' he
  cases e with
  | normal =>
    obtain ⟨F', H', ⟨i', h1, h2, h3⟩, β', hs'⟩ := he
    exact ⟨μ i', by omega, i', rfl, β', by subst h2; exact hs'.proj h1⟩
  | exit id => exact he
  | ret => exact he
  | panic ch => exact he
  | goto l => exact he.elim
  | outgrown => exact he.elim
end
end Go.AL
