/-
  The operations of a region, one behind the other in the order of the text, and what that says where the order is open. No conditions.
-/
import Derived.Test.YthogeodbnnfamaaA3
set_option linter.unusedVariables false
namespace Go.AL
open Go

inductive ARes where
  | ret (v : AVal)
  | pan (v : AVal)

abbrev Eff := ARes → List AObj → Prop

/-- what has come about: a value, a heap, and the step to it -/
def Came (ext : Nat → Prop) (w : World) (β : List Ent) (res : Eff) (r : AVal → ARes) (u : Value) (w' : World) : Prop :=
  ∃ v H' β', res (r v) H' ∧ Rel (ctx ext w' β') v u ∧ Inv ext w' H' β' ∧ Step w β w' β'

def Ended (ext : Nat → Prop) (w : World) (β : List Ent) (res : Eff) : Ending → World → Prop
  | .returned u, w' => Came ext w β res .ret u w'
  | .panicked ch, w' => ∃ u, ch = [{ v := u, recovered := false }] ∧ Came ext w β res .pan u w'
  | .outgrown, _ => False

def Upon (P : Program) (ext : Nat → Prop) (w : World) (β : List Ent) (res : Eff) : Result Next → Prop
  | .ok (.value u) w' => Came ext w β res .ret u w'
  | .ok .skip w' => Came ext w β res .ret undef w'
  | .ok (.enter f args) w' => Calls P f args w' (Ended ext w β res)
  | .halt (.panic u) w' => Came ext w β res .pan u w'
  | _ => False

/-- What an operation does, whatever stands for what it is handed. -/
def OpSem (P : Program) (o : Oper) (F : Fr) (H : List AObj) (res : Eff) : Prop :=
  ∀ ext w β (ρ : Operand → Value), Inv ext w H β → (∀ b, ext b → b < w.heap.size) → (∀ v, ρ (.const v) = v) → (∀ x ∈ o.op.operands, ∀ v, ev F x = some v → Rel (ctx ext w β) v (ρ x)) →
    Upon P ext w β res ((execOp ρ o).run P w)

theorem OpSem.congr {P : Program} {o : Oper} {F F' : Fr} {H : List AObj} {res : Eff} (h : OpSem P o F H res) (he : ∀ x ∈ o.op.operands, ∀ v, ev F x = some v → ev F' x = some v) : OpSem P o F' H res :=
  fun ext w β ρ hI hx hκ hρ => h ext w β ρ hI hx hκ fun x hm v hv => hρ x hm v (he x hm v hv)

/-- whether the guard lets it be carried out -/
def wantedA (v : AVal) (want : Bool) : Option Bool :=
  match v with
  | .v (.bool x) => some (x == want)
  | .tup [] => some false
  | _ => none

def guardA (ops : Array Oper) (F : Fr) (o : Oper) : Option Bool :=
  match o.guard with
  | none => some true
  | some (j, want) => match (ops[j]?).bind (·.dst) with
    | some t => (fget F t).bind (wantedA · want)
    | none => some false

theorem guardA_ok {G : Gh} {β : List Ent} {F : Fr} {H : List AObj} {a : Act} {w : World} (h : StB G β F H a w) {ops : Array Oper} {o : Oper} {b : Bool} (hg : guardA ops F o = some b) :
    Region.wanted o (yielded ops a.tmps) = b := by
  unfold guardA at hg
  unfold Region.wanted
  cases ho : o.guard with
  | none => rw [ho] at hg; simp at hg; subst hg; rfl
  | some p =>
    obtain ⟨j, want⟩ := p
    rw [ho] at hg
    simp only at hg ⊢
    unfold yielded
    cases hd : (ops[j]?).bind (·.dst) with
    | none => rw [hd] at hg; simp at hg; subst hg; rfl
    | some t =>
      rw [hd] at hg
      simp only at hg
      cases hf : fget F t with
      | none => rw [hf] at hg; cases hg
      | some x =>
        rw [hf] at hg
        obtain ⟨u, h1, h2⟩ := h.get t x hf
        simp only [Option.bind_some] at hg ⊢
        rw [h1]
        unfold wantedA at hg
        split at hg
        · rename_i y
          have : u = .bool y := h2
          subst this
          simp at hg
          subst hg
          simp
        · obtain ⟨a, rfl, hr⟩ := h2
          simp at hg
          subst hg
          rfl
        · cases hg

def AWL (P : Program) (G : Gh) (ops : Array Oper) (Q : APost) : List Oper → Fr → List AObj → Prop
  | [], F, H => Q .normal F H
  | o :: l, F, H => (∀ t, o.dst = some t → t < G.n) ∧
      ((guardA ops F o = some true ∧ ∃ res, OpSem P o F H res ∧ ∀ r H', res r H' → match r with
        | .ret v => AWL P G ops Q l (fput F o.dst v) H'
        | .pan v => Q (.panic v) F H') ∨
       (guardA ops F o = some false ∧ AWL P G ops Q l (fput F o.dst (.tup [])) H))

section
variable {P : Program} {G : Gh} {ops : Array Oper} {Q : APost}

/-- one operation of which OpSem is known, in a state -/
theorem op_wp {F : Fr} {H : List AObj} {o : Oper} {res : Eff} {a : Act} {w : World} {K : Act → World → Prop} (hd : ∀ t, o.dst = some t → t < G.n) (ho : OpSem P o F H res) (hs : St G F H a w)
    (hr : ∀ r H', res r H' → match r with
        | .ret v => ∀ a w, St G (fput F o.dst v) H' a w → K a w
        | .pan v => Q (.panic v) F H') : o.wp P a w K (lift G Q) := by
  obtain ⟨β, h⟩ := hs
  have h1 := ho G.ext w β a.eval h.inv h.extOk (fun _ => rfl) (fun x _ v hv => h.ev hv)
  unfold Oper.wp
  have came : ∀ u w', Came G.ext w β res .ret u w' → K (a.put o.dst u) w' := by
    rintro u w' ⟨v, H', β', h2, h3, h4, h5⟩
    exact hr _ _ h2 _ _ ⟨β', (h.world h4 h5).put h3 hd⟩
  have pan : ∀ u w', Came G.ext w β res .pan u w' → lift G Q (.panic [{ v := u, recovered := false }]) a w' := by
    rintro u w' ⟨v, H', β', h2, h3, h4, h5⟩
    exact ⟨v, F, H', β', u, hr _ _ h2, h.world h4 h5, rfl, h3⟩
  generalize (execOp a.eval o).run P w = r at h1
  cases r with
  | ok n w' =>
    cases n <;> simp only [Upon] at h1 <;> simp only [Oper.upon]
    case value u => exact came u w' h1
    case skip => exact came _ w' h1
    case enter f args =>
      refine h1.mono fun e w'' he => ?_
      cases e with
      | returned u => exact came u w'' he
      | panicked ch => obtain ⟨u, rfl, hc⟩ := he; exact pan u w'' hc
      | outgrown => exact he.elim
  | halt x w' =>
    cases x <;> simp only [Upon] at h1 <;> simp only [Oper.upon]
    case panic u => exact pan u w' h1

theorem awl_sound : ∀ (l : List Oper) (F : Fr) (H : List AObj), AWL P G ops Q l F H → ∀ a w, St G F H a w → wpList P ops (lift G Q) l a w
  | [], F, H, h, a, w, hs => ⟨F, H, h, hs⟩
  | o :: l, F, H, ⟨hd, h⟩, a, w, hs => by
    unfold wpList
    rcases h with ⟨hg, res, ho, hr⟩ | ⟨hg, hr⟩
    · obtain ⟨β, hs'⟩ := id hs
      rw [if_pos (guardA_ok hs' hg)]
      refine .inl (op_wp hd ho hs fun r H' hres => ?_)
      have := hr r H' hres
      cases r with
      | ret v => exact fun a w => awl_sound l _ H' this a w
      | pan v => exact this
    · obtain ⟨β, hs'⟩ := id hs
      rw [if_neg (by rw [guardA_ok hs' hg]; simp)]
      exact awl_sound l _ H hr _ _ ⟨β, hs'.undef hd⟩

theorem aw_region {id : Nat} {F : Fr} {H : List AObj} (h : AWL P G ops Q ops.toList F H) : AW P G (.region id ops false) Q F H :=
  fun a w hs => wp_region_list (awl_sound _ F H h a w hs)

theorem aw_region_lit {id : Nat} {l : List Oper} {F : Fr} {H : List AObj} (h : AWL P G l.toArray Q l F H) : AW P G (.region id l.toArray false) Q F H :=
  aw_region (by simpa using h)

theorem awl_nil {F : Fr} {H : List AObj} (h : Q .normal F H) : AWL P G ops Q [] F H := h
def dstOk (n : Nat) (d : Option Tmp) : Bool := match d with
  | some t => Nat.blt t n
  | none => true
theorem dstOk_ok {n : Nat} {d : Option Tmp} (h : dstOk n d = true) : ∀ t, d = some t → t < n := by
  intro t ht; subst ht; simpa [dstOk, Nat.blt_eq] using h

/-- an operation with one outcome -/
theorem awl_op {F : Fr} {H H' : List AObj} {o : Oper} {l : List Oper} {v : AVal} (hd : dstOk G.n o.dst = true) (hg : guardA ops F o = some true) (ho : OpSem P o F H (fun r H1 => r = .ret v ∧ H1 = H'))
    (h : AWL P G ops Q l (fput F o.dst v) H') : AWL P G ops Q (o :: l) F H :=
  ⟨dstOk_ok hd, .inl ⟨hg, _, ho, fun r H1 ⟨h1, h2⟩ => by subst h1; subst h2; exact h⟩⟩
theorem awl_no {F : Fr} {H : List AObj} {o : Oper} {l : List Oper} (hd : dstOk G.n o.dst = true) (hg : guardA ops F o = some false)
    (h : AWL P G ops Q l (fput F o.dst (.tup [])) H) : AWL P G ops Q (o :: l) F H :=
  ⟨dstOk_ok hd, .inr ⟨hg, h⟩⟩
end

/-! ### where the order is open -/

/-- what an operation hangs on and does: nothing of the heap (p); it reads boxes (r), or anything (s); it leaves boxes as they are (x), or not (m). -/
inductive K where
  | p | r | s | x | m
  deriving DecidableEq

def K.apart : K → K → Bool
  | .p, _ | _, .p | .r, .r | .r, .s | .s, .r | .r, .x | .s, .s => true
  | _, _ => false

def Boxes (H H' : List AObj) : Prop := ∀ (j : Nat) (t : TypeId) (cs : List AVal), H[j]? = some (.box t cs) → H'[j]? = some (.box t cs)

abbrev one (v : AVal) (H : List AObj) : Eff := fun r H' => r = .ret v ∧ H' = H

def DSem (P : Program) (k : K) (o : Oper) (F : Fr) (H : List AObj) (v : AVal) (H1 : List AObj) : Prop :=
  match k with
  | .p => H1 = H ∧ ∀ H', OpSem P o F H' (one v H')
  | .r => H1 = H ∧ ∀ H', Boxes H H' → OpSem P o F H' (one v H')
  | .s => H1 = H ∧ OpSem P o F H (one v H)
  | .x => Boxes H H1 ∧ OpSem P o F H (one v H1)
  | .m => OpSem P o F H (one v H1)

theorem Boxes.refl (H : List AObj) : Boxes H H := fun _ _ _ h => h

theorem DSem.op {P : Program} {k : K} {o : Oper} {F : Fr} {H H1 : List AObj} {v : AVal} (h : DSem P k o F H v H1) : OpSem P o F H (one v H1) := by
  cases k with
  | p => obtain ⟨rfl, h⟩ := h; exact h _
  | r => obtain ⟨rfl, h⟩ := h; exact h _ (Boxes.refl _)
  | s => obtain ⟨rfl, h⟩ := h; exact h
  | x => exact h.2
  | m => exact h

theorem DSem.boxes {P : Program} {k : K} {o : Oper} {F : Fr} {H H1 : List AObj} {v : AVal} (h : DSem P k o F H v H1) (hk : k ≠ .m) : Boxes H H1 := by
  cases k with
  | p => obtain ⟨rfl, h⟩ := h; exact Boxes.refl _
  | r => obtain ⟨rfl, h⟩ := h; exact Boxes.refl _
  | s => obtain ⟨rfl, h⟩ := h; exact Boxes.refl _
  | x => exact h.1
  | m => exact absurd rfl hk

theorem DSem.congr {P : Program} {k : K} {o : Oper} {F F' : Fr} {H H1 : List AObj} {v : AVal} (h : DSem P k o F H v H1) (he : ∀ x ∈ o.op.operands, ∀ v, ev F x = some v → ev F' x = some v) : DSem P k o F' H v H1 := by
  cases k with
  | p => obtain ⟨rfl, h⟩ := h; exact ⟨rfl, fun H' => (h H').congr he⟩
  | r => obtain ⟨rfl, h⟩ := h; exact ⟨rfl, fun H' hb => (h H' hb).congr he⟩
  | s => obtain ⟨rfl, h⟩ := h; exact ⟨rfl, h.congr he⟩
  | x => exact ⟨h.1, h.2.congr he⟩
  | m => exact OpSem.congr h he

/-- one step of the walk in the order of the text: carried out, or unwanted -/
def DStep (P : Program) (ops : Array Oper) (k : K) (o : Oper) (F : Fr) (H : List AObj) (v : AVal) (H1 : List AObj) : Prop :=
  (guardA ops F o = some true ∧ DSem P k o F H v H1) ∨ (guardA ops F o = some false ∧ v = .tup [] ∧ H1 = H)

def AWD (P : Program) (G : Gh) (ops : Array Oper) (Q : Fr → List AObj → Prop) : List (Nat × Oper × K) → Fr → List AObj → Prop
  | [], F, H => Q F H
  | (_, o, k) :: l, F, H => (∀ t, o.dst = some t → t < G.n) ∧ ∃ v H1, DStep P ops k o F H v H1 ∧ AWD P G ops Q l (fput F o.dst v) H1

def FrEq (F F' : Fr) : Prop := ∀ t, fget F t = fget F' t

theorem FrEq.put {F F' : Fr} (h : FrEq F F') (d : Option Tmp) (v : AVal) : FrEq (fput F d v) (fput F' d v) := by
  intro t
  cases d with
  | none => exact h t
  | some d => simp only [fput, fget, h t]

theorem FrEq.swap (F : Fr) {d e : Option Tmp} (v u : AVal) (h : ∀ t, d = some t → e ≠ some t) : FrEq (fput (fput F d v) e u) (fput (fput F e u) d v) := by
  intro t
  cases d with
  | none => rfl
  | some d =>
    cases e with
    | none => rfl
    | some e =>
      have hne : d ≠ e := fun he => h d rfl (he ▸ rfl)
      simp only [fput, fget]
      cases h1 : Nat.beq e t <;> cases h2 : Nat.beq d t <;> simp
      exact absurd ((Nat.eq_of_beq_eq_true h2).trans (Nat.eq_of_beq_eq_true h1).symm) hne

theorem FrEq.ev {F F' : Fr} (h : FrEq F F') (x : Operand) : ev F x = ev F' x := by
  cases x with
  | tmp t => exact h t
  | _ => rfl

theorem guardA_congr {F F' : Fr} {ops : Array Oper} {o : Oper} (h : ∀ t, t ∈ o.looksAt ops → fget F t = fget F' t) : guardA ops F o = guardA ops F' o := by
  unfold guardA
  cases hg : o.guard with
  | none => rfl
  | some p =>
    obtain ⟨j, want⟩ := p
    simp only
    cases hd : (ops[j]?).bind (·.dst) with
    | none => rfl
    | some t =>
      simp only
      rw [h t (by simp [Oper.looksAt, hg, hd])]

theorem ev_congr {F F' : Fr} {ops : Array Oper} {o : Oper} (h : ∀ t, t ∈ o.looksAt ops → fget F t = fget F' t) : ∀ x ∈ o.op.operands, ev F x = ev F' x := by
  intro x hx
  cases x with
  | tmp t => exact h t (List.mem_append_left _ (List.mem_filterMap.2 ⟨.tmp t, by simpa using hx, rfl⟩))
  | _ => rfl

theorem DStep.congr {P : Program} {k : K} {ops : Array Oper} {o : Oper} {F F' : Fr} {H H1 : List AObj} {v : AVal} (h : DStep P ops k o F H v H1) (he : ∀ t, t ∈ o.looksAt ops → fget F t = fget F' t) : DStep P ops k o F' H v H1 := by
  unfold DStep
  rw [← guardA_congr he]
  rcases h with ⟨h1, h2⟩ | h
  · exact .inl ⟨h1, h2.congr fun x hx v hv => by rw [← ev_congr he x hx]; exact hv⟩
  · exact .inr h

theorem AWD.congr {P : Program} {G : Gh} {ops : Array Oper} {Q : Fr → List AObj → Prop} (hQ : ∀ F F' H, FrEq F F' → Q F H → Q F' H) : ∀ (l : List (Nat × Oper × K)) (F F' : Fr) (H : List AObj), FrEq F F' → AWD P G ops Q l F H → AWD P G ops Q l F' H
  | [], F, F', H, he, h => hQ F F' H he h
  | (i, o, k) :: l, F, F', H, he, ⟨hd, v, H1, h1, h2⟩ => ⟨hd, v, H1, h1.congr fun t _ => he t, AWD.congr hQ l _ _ H1 (he.put o.dst v) h2⟩

theorem fget_put_ne {F : Fr} {d : Option Tmp} {v : AVal} {t : Nat} (h : d ≠ some t) : fget (fput F d v) t = fget F t := by
  cases d with
  | none => rfl
  | some d =>
    have hne : d ≠ t := fun he => h (he ▸ rfl)
    simp only [fput, fget]
    cases hb : Nat.beq d t with
    | false => rfl
    | true => exact absurd (Nat.eq_of_beq_eq_true hb) hne

/-- two steps that have nothing to do with one another, in the other order -/
theorem DStep.swap {P : Program} {ops : Array Oper} {ki kj : K} {oi oj : Oper} {F : Fr} {H Hj Hji : List AObj} {vi vj : AVal} (hap : oj.apart ops oi = true) (hk : kj.apart ki = true)
    (hj : DStep P ops kj oj F H vj Hj) (hi : DStep P ops ki oi (fput F oj.dst vj) Hj vi Hji) :
    ∃ Hi, DStep P ops ki oi F H vi Hi ∧ DStep P ops kj oj (fput F oi.dst vi) Hi vj Hji := by
  obtain ⟨a1, a2, a3⟩ := Oper.apart_spec hap
  have hi' : DStep P ops ki oi F Hj vi Hji := hi.congr fun t ht => fget_put_ne fun he => a1 t he ht
  have hj' : ∀ v, DStep P ops kj oj (fput F oi.dst v) H vj Hj := fun v => hj.congr fun t ht => (fget_put_ne fun he => a3 t he ht).symm
  -- the unwanted ones change nothing
  have same : ∀ {k : K} {o : Oper} {F : Fr} {H H1 H2 : List AObj} {v : AVal}, (k = .p ∨ k = .r ∧ Boxes H H2) → DStep P ops k o F H v H1 → H1 = H ∧ DStep P ops k o F H2 v H2 := by
    intro k o F H H1 H2 v hk h
    rcases h with ⟨h1, h2⟩ | ⟨h1, h2, h3⟩
    · rcases hk with rfl | ⟨rfl, hb⟩
      · exact ⟨h2.1, .inl ⟨h1, rfl, h2.2⟩⟩
      · exact ⟨h2.1, .inl ⟨h1, rfl, fun H' hb' => h2.2 H' fun j t cs hj => hb' j t cs (hb j t cs hj)⟩⟩
    · exact ⟨h3, .inr ⟨h1, h2, rfl⟩⟩
  have keep : ∀ {k : K} {o : Oper} {F : Fr} {H H1 : List AObj} {v : AVal}, k ≠ .m → DStep P ops k o F H v H1 → Boxes H H1 := by
    intro k o F H H1 v hk h
    rcases h with ⟨h1, h2⟩ | ⟨h1, h2, h3⟩
    · exact h2.boxes hk
    · subst h3; exact Boxes.refl _
  have fixed : ∀ {k : K} {o : Oper} {F : Fr} {H H1 : List AObj} {v : AVal}, (k = .p ∨ k = .r ∨ k = .s) → DStep P ops k o F H v H1 → H1 = H := by
    intro k o F H H1 v hk h
    rcases h with ⟨h1, h2⟩ | ⟨h1, h2, h3⟩
    · rcases hk with rfl | rfl | rfl <;> exact h2.1
    · exact h3
  -- cases on who hangs on nothing
  by_cases hjp : kj = .p
  · obtain ⟨rfl, _⟩ := same (H2 := H) (.inl hjp) hj
    exact ⟨Hji, hi', (same (H2 := Hji) (.inl hjp) (hj' vi)).2⟩
  by_cases hip : ki = .p
  · obtain ⟨rfl, _⟩ := same (H2 := Hj) (.inl hip) hi'
    exact ⟨H, (same (H2 := H) (.inl hip) hi').2, hj' vi⟩
  by_cases hjr : kj = .r
  · have hH := fixed (.inr (.inl hjr)) hj
    subst hH
    have hm : ki ≠ .m := fun e => by subst e; subst hjr; cases hk
    exact ⟨Hji, hi', (same (H2 := Hji) (.inr ⟨hjr, keep hm hi'⟩) (hj' vi)).2⟩
  have hjs : kj = .s := by
    cases kj <;> first
      | rfl
      | exact absurd rfl hjp
      | exact absurd rfl hjr
      | (cases ki <;> first | exact absurd rfl hip | cases hk)
  have his : ki = .r ∨ ki = .s := by
    subst hjs
    cases ki <;> first
      | exact .inl rfl
      | exact .inr rfl
      | exact absurd rfl hip
      | cases hk
  have h1 := fixed (.inr (.inr hjs)) hj
  have h2 := fixed (.inr his) hi'
  subst h1; subst h2
  exact ⟨Hji, hi', hj' vi⟩

/-- an operation that may come up now, taken out of the walk -/
theorem AWD.take {P : Program} {G : Gh} {ops : Array Oper} {Q : Fr → List AObj → Prop} (hQ : ∀ F F' H, FrEq F F' → Q F H → Q F' H) {i : Nat} {oi : Oper} {ki : K} {L2 : List (Nat × Oper × K)} :
    ∀ (L1 : List (Nat × Oper × K)) (F : Fr) (H : List AObj), (∀ x ∈ L1, x.2.1.apart ops oi = true ∧ x.2.2.apart ki = true) → AWD P G ops Q (L1 ++ (i, oi, ki) :: L2) F H →
      (∀ t, oi.dst = some t → t < G.n) ∧ ∃ v H1, DStep P ops ki oi F H v H1 ∧ AWD P G ops Q (L1 ++ L2) (fput F oi.dst v) H1
  | [], F, H, _, h => h
  | (j, oj, kj) :: L1, F, H, hL, ⟨hd, vj, Hj, hj, h⟩ => by
    obtain ⟨hap, hk⟩ := hL (j, oj, kj) (List.mem_cons_self ..)
    obtain ⟨hd', vi, Hji, hi, h'⟩ := AWD.take hQ L1 _ Hj (fun x hx => hL x (List.mem_cons_of_mem _ hx)) h
    obtain ⟨Hi, h1, h2⟩ := DStep.swap hap hk hj hi
    refine ⟨hd', vi, Hi, h1, hd, vj, Hji, h2, AWD.congr hQ _ _ _ _ ?_ h'⟩
    obtain ⟨a1, a2, a3⟩ := Oper.apart_spec hap
    exact FrEq.swap F vj vi a2

theorem St.eq {G : Gh} {F F' : Fr} {H : List AObj} {a : Act} {w : World} (he : FrEq F F') (h : St G F H a w) : St G F' H a w := by
  obtain ⟨β, h⟩ := h
  exact ⟨β, h.inv, h.step, h.extOk, h.size, h.defers, fun t v ht => h.get t v (by rw [he t]; exact ht)⟩

/-- what is left, and what has come up -/
def Left (n : Nat) (L : List (Nat × Oper × K)) (listed : Array Bool) : Prop := listed.size = n ∧ ∀ i, i < n → (listed.getD i true = false ↔ ∃ x ∈ L, x.1 = i)

theorem getD_set_self {listed : Array Bool} {i : Nat} (h : i < listed.size) : (listed.setIfInBounds i true).getD i true = true := by
  simp [h]

/-- THE ORDER IS OPEN: the walk of one order serves them all. -/
theorem awd_any {P : Program} {G : Gh} {ops : Array Oper} {Q : APost} (hQ : ∀ F F' H, FrEq F F' → Q .normal F H → Q .normal F' H) :
    ∀ (m : Nat) (L : List (Nat × Oper × K)) (listed : Array Bool) (F : Fr) (H : List AObj), L.length = m → Left ops.size L listed →
      (∀ x ∈ L, ops[x.1]? = some x.2.1) → (L.map (·.1)).Nodup →
      (∀ L1 x L2, L = L1 ++ x :: L2 → (∀ y ∈ L2, y.1 ≠ x.1 → ∀ e ∈ x.2.1.after, Region.binds .any e = true → e.on ≠ y.1) ∧ (∀ e ∈ x.2.1.after, Region.binds .any e = true → e.on < ops.size ∧ e.on ≠ x.1) ∧
        ∀ y ∈ L1, (∃ e ∈ x.2.1.after, Region.binds .any e = true ∧ e.on = y.1) ∨ (y.2.1.apart ops x.2.1 = true ∧ y.2.2.apart x.2.2 = true)) →
      AWD P G ops (Q .normal) L F H → ∀ a w, St G F H a w → wpAny P .any ops (lift G Q) m listed a w
  | 0, L, listed, F, H, hm, hL, hops, hnd, hc, h, a, w, hs => by
    obtain rfl := List.length_eq_zero_iff.1 hm
    refine ⟨?_, F, H, h, hs⟩
    cases hr : Region.ready .any ops listed with
    | nil => rfl
    | cons i r =>
      have : i ∈ Region.ready .any ops listed := by rw [hr]; exact List.mem_cons_self ..
      obtain ⟨h0, o, ho, _⟩ := mem_ready.1 this
      obtain ⟨x, hx, _⟩ := (hL.2 i (Array.getElem?_eq_some_iff.1 ho).1).1 h0
      cases hx
  | m + 1, L, listed, F, H, hm, hL, hops, hnd, hc, h, a, w, hs => by
    refine ⟨fun hr => ?_, fun i hi => ?_⟩
    · -- the first of the walk is ready
      exfalso
      cases L with
      | nil => simp at hm
      | cons x L =>
        obtain ⟨h1, h2, _⟩ := hc [] x L rfl
        have hx := hops x (List.mem_cons_self ..)
        have hlt := (Array.getElem?_eq_some_iff.1 hx).1
        have : x.1 ∈ Region.ready .any ops listed := by
          refine mem_ready.2 ⟨(hL.2 x.1 hlt).2 ⟨x, List.mem_cons_self .., rfl⟩, x.2.1, hx, fun e he hb => ?_⟩
          obtain ⟨h3, h4⟩ := h2 e he hb
          have h5 : ¬ (listed.getD e.on true = false) := fun hf => by
            obtain ⟨y, hy, hye⟩ := (hL.2 e.on h3).1 hf
            cases List.mem_cons.1 hy with
            | inl hxy => subst hxy; exact h4 hye.symm
            | inr hm' => exact h1 y hm' (fun hyx => h4 (hye ▸ hyx)) e he hb hye.symm
          have hsz : e.on < listed.size := by rw [hL.1]; exact h3
          simp only [Array.getD_eq_getD_getElem?, Array.getElem?_eq_getElem hsz, Option.getD_some] at h5 ⊢
          simpa using h5
        rw [hr] at this
        cases this
    · obtain ⟨h0, o, ho, hall⟩ := mem_ready.1 hi
      have hlt := (Array.getElem?_eq_some_iff.1 ho).1
      obtain ⟨x, hx, hxi⟩ := (hL.2 i hlt).1 h0
      subst hxi
      have hox := hops x hx
      rw [ho] at hox
      simp at hox
      obtain ⟨L1, L2, hsplit⟩ := List.append_of_mem hx
      obtain ⟨h1, h2, h3⟩ := hc L1 x L2 hsplit
      obtain ⟨xi, xo, xk⟩ := x
      simp only at hox hsplit h1 h2 h3 ho hall hlt h0 hi hx
      subst hox
      have hun : ∀ y ∈ L1, listed.getD y.1 true = false := fun y hy => by
        have hyL : y ∈ L := by rw [hsplit]; exact List.mem_append_left _ hy
        exact (hL.2 y.1 (Array.getElem?_eq_some_iff.1 (hops y hyL)).1).2 ⟨y, hyL, rfl⟩
      have hap : ∀ y ∈ L1, y.2.1.apart ops o = true ∧ y.2.2.apart xk = true := fun y hy => by
        rcases h3 y hy with ⟨e, he, hb, hey⟩ | h4
        · exfalso
          have h5 := hall e he hb
          have h6 := hun y hy
          rw [hey] at h5
          have hsz : y.1 < listed.size := by rw [hL.1, ← hey]; exact (h2 e he hb).1
          simp only [Array.getD_eq_getD_getElem?, Array.getElem?_eq_getElem hsz, Option.getD_some] at h5 h6
          rw [h5] at h6; cases h6
        · exact h4
      rw [hsplit] at h
      obtain ⟨hd, v, H1, hst, hrest⟩ := AWD.take hQ L1 F H hap h
      have hnd' : ((L1 ++ L2).map (·.1)).Nodup ∧ ∀ y ∈ L1 ++ L2, y.1 ≠ xi := by
        rw [hsplit] at hnd
        simp only [List.map_append, List.map_cons] at hnd ⊢
        rw [List.nodup_append] at hnd ⊢
        obtain ⟨n1, n2, n3⟩ := hnd
        rw [List.nodup_cons] at n2
        refine ⟨⟨n1, n2.2, fun a ha b hb => n3 a ha b (List.mem_cons_of_mem _ hb)⟩, fun y hy hyx => ?_⟩
        cases List.mem_append.1 hy with
        | inl hy => exact n3 y.1 (List.mem_map.2 ⟨y, hy, rfl⟩) xi (List.mem_cons_self ..) hyx
        | inr hy => exact n2.1 (List.mem_map.2 ⟨y, hy, hyx⟩)
      have hleft : Left ops.size (L1 ++ L2) (listed.setIfInBounds xi true) := by
        refine ⟨by simp [hL.1], fun j hj => ?_⟩
        by_cases hji : xi = j
        · subst hji
          rw [getD_set_self (by rw [hL.1]; exact hj)]
          constructor
          · intro h; cases h
          · rintro ⟨y, hy, hyx⟩; exact absurd hyx (hnd'.2 y hy)
        · rw [getD_set_ne true hji, hL.2 j hj, hsplit]
          constructor
          · rintro ⟨y, hy, hyj⟩
            rcases List.mem_append.1 hy with h4 | h4
            · exact ⟨y, List.mem_append_left _ h4, hyj⟩
            · cases List.mem_cons.1 h4 with
              | inl h5 => subst h5; exact absurd hyj hji
              | inr h5 => exact ⟨y, List.mem_append_right _ h5, hyj⟩
          · rintro ⟨y, hy, hyj⟩
            rcases List.mem_append.1 hy with h4 | h4
            · exact ⟨y, List.mem_append_left _ h4, hyj⟩
            · exact ⟨y, List.mem_append_right _ (List.mem_cons_of_mem _ h4), hyj⟩
      have hsub : ∀ y ∈ L1 ++ L2, y ∈ L := fun y hy => by
        rw [hsplit]
        rcases List.mem_append.1 hy with h4 | h4
        · exact List.mem_append_left _ h4
        · exact List.mem_append_right _ (List.mem_cons_of_mem _ h4)
      have hc' : ∀ M1 y M2, L1 ++ L2 = M1 ++ y :: M2 → (∀ z ∈ M2, z.1 ≠ y.1 → ∀ e ∈ y.2.1.after, Region.binds .any e = true → e.on ≠ z.1) ∧ (∀ e ∈ y.2.1.after, Region.binds .any e = true → e.on < ops.size ∧ e.on ≠ y.1) ∧
          ∀ z ∈ M1, (∃ e ∈ y.2.1.after, Region.binds .any e = true ∧ e.on = z.1) ∨ (z.2.1.apart ops y.2.1 = true ∧ z.2.2.apart y.2.2 = true) := by
        intro M1 y M2 hM
        rcases List.append_eq_append_iff.1 hM with ⟨as, ha1, ha2⟩ | ⟨bs, hb1, hb2⟩
        · -- M1 = L1 ++ as, L2 = as ++ y :: M2
          obtain ⟨c1, c2, c3⟩ := hc (L1 ++ (xi, o, xk) :: as) y M2 (by rw [hsplit, ha2]; simp)
          refine ⟨c1, c2, fun z hz => c3 z ?_⟩
          rw [ha1] at hz
          rcases List.mem_append.1 hz with h4 | h4
          · exact List.mem_append_left _ h4
          · exact List.mem_append_right _ (List.mem_cons_of_mem _ h4)
        · cases bs with
          | nil =>
            simp at hb1 hb2
            obtain ⟨c1, c2, c3⟩ := hc (L1 ++ [(xi, o, xk)]) y M2 (by rw [hsplit, ← hb2]; simp)
            refine ⟨c1, c2, fun z hz => c3 z ?_⟩
            rw [← hb1] at hz
            exact List.mem_append_left _ hz
          | cons b bs =>
            simp at hb2
            obtain ⟨hb2, hb3⟩ := hb2
            subst hb2
            obtain ⟨c1, c2, c3⟩ := hc M1 y (bs ++ (xi, o, xk) :: L2) (by rw [hsplit, hb1]; simp)
            refine ⟨fun z hz => c1 z ?_, c2, c3⟩
            rw [hb3] at hz
            rcases List.mem_append.1 hz with h4 | h4
            · exact List.mem_append_left _ h4
            · exact List.mem_append_right _ (List.mem_cons_of_mem _ h4)
      have next : ∀ a w, St G (fput F o.dst v) H1 a w → wpAny P .any ops (lift G Q) m (listed.setIfInBounds xi true) a w :=
        awd_any hQ m (L1 ++ L2) _ _ H1 (by rw [hsplit] at hm; simp at hm ⊢; omega) hleft (fun y hy => hops y (hsub y hy)) hnd'.1 hc' hrest
      unfold wpOp
      simp only [ho]
      obtain ⟨β, hs'⟩ := id hs
      rcases hst with ⟨hg, hsem⟩ | ⟨hg, rfl, rfl⟩
      · rw [if_pos (guardA_ok hs' hg)]
        exact .inl (op_wp hd hsem.op hs fun r H' ⟨h4, h5⟩ => by subst h4; subst h5; exact next)
      · rw [if_neg (by rw [guardA_ok hs' hg]; simp)]
        exact next _ _ ⟨β, hs'.undef hd⟩
end Go.AL
