/-
  Abstract heaps, what a step may change, and the rules by which code is walked over abstract states. No conditions.
-/
import Derived.Test.YthogeodbnnfamaaA1
set_option linter.unusedVariables false
namespace Go.AL
open Go

inductive AObj where
  | box (t : TypeId) (cs : List AVal)
  | arr (g : Nat) (t : TypeId) (es : Nat) (xs : List AVal)
  | raw (o : Obj)
  | map (es : List (Value × AVal × Nat)) (clock : Nat)
  | dead (g : Nat)
  | row (g : Nat) (t : TypeId) (es : Nat) (xs : List AVal)

def RelM (c : Ctx) : List (Value × AVal × Nat) → List MapEntry → Prop
  | [], ms => ms = []
  | (k, x, n) :: es, ms => ∃ m ms', ms = m :: ms' ∧ m.key = k ∧ m.born = n ∧ Rel c x m.val ∧ RelM c es ms'

theorem RelM.le {c c' : Ctx} (h : c.le c') : ∀ {es : List (Value × AVal × Nat)} {ms : List MapEntry}, RelM c es ms → RelM c' es ms
  | [], _, r => r
  | (k, x, n) :: es, _, ⟨m, ms', e, h1, h2, r, rs⟩ => ⟨m, ms', e, h1, h2, r.le h, rs.le h⟩

def RelO (c : Ctx) (e : Ent) : AObj → Prop
  | .box t cs => e.gen = 0 ∧ cs.all AVal.one = true ∧ ∃ b us, e.blk = some b ∧ c.w.heap[b]? = some (.cells us t (0, 0)) ∧ RelL c cs us.toList
  | .arr g t es xs => e.gen = g ∧ g ≠ 0 ∧ e.es = es ∧ e.len = xs.length ∧ xs.length ≤ e.cap ∧ match e.blk with
    | none => e.cap = 0
    | some b => ∃ us, c.w.heap[b]? = some (.cells us t (0, 0)) ∧ us.size = e.cap * es ∧ RelR { c with β := [] } es (fun i => us[i]?) 0 xs
  | .raw o => e.gen = 0 ∧ ∃ b, e.blk = some b ∧ c.w.heap[b]? = some o
  | .map es clock => e.gen = 0 ∧ ∃ b ms, e.blk = some b ∧ c.w.heap[b]? = some (.map ms clock) ∧ RelM c es ms.toList
  | .dead g => e.gen = g ∧ g ≠ 0 ∧ e.blk = none
  | .row g t es xs => e.gen = g ∧ g ≠ 0 ∧ e.es = es ∧ e.len = xs.length ∧ e.cap = xs.length ∧ ∃ b us, e.blk = some b ∧ c.w.heap[b]? = some (.cells us t (0, 0)) ∧ us.size = e.cap * es ∧ RelR { c with β := [] } es (fun i => us[i]?) 0 xs

theorem RelO.le {c c' : Ctx} (h : c.le c') {e : Ent} {o : AObj} (hb : ∀ b, e.blk = some b → c'.w.heap[b]? = c.w.heap[b]?) (r : RelO c e o) : RelO c' e o := by
  cases o with
  | box t cs => obtain ⟨h1, h2, b, us, h3, h4, h5⟩ := r; exact ⟨h1, h2, b, us, h3, (hb b h3).trans h4, h5.le h⟩
  | arr g t es xs =>
    obtain ⟨h1, h0, h2, hl, h3, h4⟩ := r
    refine ⟨h1, h0, h2, hl, h3, ?_⟩
    cases hk : e.blk with
    | none => rw [hk] at h4; exact h4
    | some b =>
      rw [hk] at h4
      obtain ⟨us, h5, h6, h7⟩ := h4
      exact ⟨us, (hb b hk).trans h5, h6, h7.le h.bare _ _ _ _⟩
  | raw o => obtain ⟨h1, b, h3, h4⟩ := r; exact ⟨h1, b, h3, (hb b h3).trans h4⟩
  | map es clock => obtain ⟨h1, b, ms, h3, h4, h5⟩ := r; exact ⟨h1, b, ms, h3, (hb b h3).trans h4, h5.le h⟩
  | dead g => exact r
  | row g t es xs =>
    obtain ⟨h1, h0, h2, hl, h3, b, us, h4, h5, h6, h7⟩ := r
    exact ⟨h1, h0, h2, hl, h3, b, us, h4, (hb b h4).trans h5, h6, h7.le h.bare _ _ _ _⟩

def Blk (β : List Ent) (b : Nat) : Prop := ∃ (j : Nat) (e : Ent), β[j]? = some e ∧ e.blk = some b
def bad (ext : Nat → Prop) (β : List Ent) (b : Nat) : Prop := ext b ∨ Blk β b

abbrev ctx (ext : Nat → Prop) (w : World) (β : List Ent) : Ctx := ⟨w, β, bad ext β⟩

structure Inv (ext : Nat → Prop) (w : World) (H : List AObj) (β : List Ent) : Prop where
  len : β.length = H.length
  obj : ∀ (j : Nat) (o : AObj) (e : Ent), H[j]? = some o → β[j]? = some e → RelO (ctx ext w β) e o
  uniq : ∀ (i j : Nat) (e f : Ent) (b : Nat), β[i]? = some e → β[j]? = some f → e.blk = some b → f.blk = some b → i = j
  sep : ∀ b, Blk β b → ¬ ext b ∧ b < w.heap.size

structure Step (w : World) (β : List Ent) (w' : World) (β' : List Ent) : Prop where
  os : w'.os = w.os
  tape : w'.tape = w.tape
  output : w'.output = w.output
  size : w.heap.size ≤ w'.heap.size
  keep : ∀ b, b < w.heap.size → ¬ Blk β b → w'.heap[b]? = w.heap[b]?
  fresh : ∀ b, Blk β' b → Blk β b ∨ w.heap.size ≤ b
  ents : ∀ (j : Nat) (e : Ent), β[j]? = some e → ∃ e', β'[j]? = some e' ∧ e.gen ≤ e'.gen ∧ (e'.gen = e.gen → e' = e) ∧ (e.gen = 0 → e' = e)

theorem Step.refl (w : World) (β : List Ent) : Step w β w β :=
  ⟨rfl, rfl, rfl, Nat.le_refl _, fun _ _ _ => rfl, fun _ h => .inl h, fun j e h => ⟨e, h, Nat.le_refl _, fun _ => rfl, fun _ => rfl⟩⟩

theorem Step.trans {w w' w'' : World} {β β' β'' : List Ent} (h : Step w β w' β') (k : Step w' β' w'' β'') : Step w β w'' β'' where
  os := k.os.trans h.os
  tape := k.tape.trans h.tape
  output := k.output.trans h.output
  size := Nat.le_trans h.size k.size
  keep := fun b hb hn => by
    have hn' : ¬ Blk β' b := fun hB => by
      rcases h.fresh b hB with h1 | h1
      · exact hn h1
      · omega
    exact (k.keep b (Nat.lt_of_lt_of_le hb h.size) hn').trans (h.keep b hb hn)
  fresh := fun b hb => by
    rcases k.fresh b hb with h1 | h1
    · exact h.fresh b h1
    · exact .inr (Nat.le_trans h.size h1)
  ents := fun j e he => by
    obtain ⟨e', h1, h2, h3, h4⟩ := h.ents j e he
    obtain ⟨e'', k1, k2, k3, k4⟩ := k.ents j e' h1
    refine ⟨e'', k1, Nat.le_trans h2 k2, fun hg => ?_, fun hg => ?_⟩
    · have : e'.gen = e.gen := by omega
      obtain rfl := h3 this
      exact k3 hg
    · obtain rfl := h4 hg
      exact k4 hg

theorem Step.le {ext : Nat → Prop} {w w' : World} {β β' : List Ent} (h : Step w β w' β') : (ctx ext w β).le (ctx ext w' β') where
  old := fun b hs hb => by
    have h1 : ¬ ext b := fun h => hb (.inl h)
    have h2 : ¬ Blk β b := fun h => hb (.inr h)
    refine ⟨Nat.lt_of_lt_of_le hs h.size, ?_, h.keep b hs h2⟩
    rintro (h3 | h3)
    · exact h1 h3
    · rcases h.fresh b h3 with h4 | h4
      · exact h2 h4
      · exact absurd hs (by simpa using h4)
  ents := h.ents

/-- only draws have been made. -/
structure SameMem (w w' : World) : Prop where
  os : w'.os = w.os
  tape : w'.tape = w.tape
  output : w'.output = w.output
  heap : w'.heap = w.heap

theorem SameMem.refl (w : World) : SameMem w w := ⟨rfl, rfl, rfl, rfl⟩
theorem SameMem.step {w w' : World} (h : SameMem w w') (β : List Ent) : Step w β w' β :=
  ⟨h.os, h.tape, h.output, by rw [h.heap]; exact Nat.le_refl _, fun b _ _ => by rw [h.heap], fun b hb => .inl hb, fun j e he => ⟨e, he, Nat.le_refl _, fun _ => rfl, fun _ => rfl⟩⟩

/-- Everything that Inv asks, where what stands is either as it was or is shown anew. -/
theorem Inv.upd {ext : Nat → Prop} {w w' : World} {H H' : List AObj} {β β' : List Ent} (hI : Inv ext w H β) (hs : Step w β w' β') (hlen : β'.length = H'.length)
    (hobj : ∀ (j : Nat) (o : AObj) (e : Ent), H'[j]? = some o → β'[j]? = some e →
      (H[j]? = some o ∧ β[j]? = some e ∧ ∀ b, e.blk = some b → w'.heap[b]? = w.heap[b]?) ∨ RelO (ctx ext w' β') e o)
    (huniq : ∀ (i j : Nat) (e f : Ent) (b : Nat), β'[i]? = some e → β'[j]? = some f → e.blk = some b → f.blk = some b → i = j)
    (hsep : ∀ b, Blk β' b → ¬ ext b ∧ b < w'.heap.size) : Inv ext w' H' β' where
  len := hlen
  obj := fun j o e ho he => by
    rcases hobj j o e ho he with ⟨h1, h2, h3⟩ | h1
    · exact (hI.obj j o e h1 h2).le hs.le h3
    · exact h1
  uniq := huniq
  sep := hsep

theorem Inv.same {ext : Nat → Prop} {w w' : World} {H : List AObj} {β : List Ent} (hI : Inv ext w H β) (hs : SameMem w w') : Inv ext w' H β :=
  hI.upd (hs.step β) hI.len (fun j o e ho he => .inl ⟨ho, he, fun b _ => by rw [hs.heap]⟩) hI.uniq (fun b hb => ⟨(hI.sep b hb).1, by rw [hs.heap]; exact (hI.sep b hb).2⟩)

theorem Blk.append {β : List Ent} {e : Ent} {b : Nat} : Blk (β ++ [e]) b ↔ Blk β b ∨ e.blk = some b := by
  constructor
  · rintro ⟨j, f, hj, hf⟩
    rcases Nat.lt_or_ge j β.length with hlt | hge
    · rw [List.getElem?_append_left hlt] at hj; exact .inl ⟨j, f, hj, hf⟩
    · rw [List.getElem?_append_right hge] at hj
      rcases hk : j - β.length with _ | m
      · rw [hk] at hj; simp at hj; subst hj; exact .inr hf
      · rw [hk] at hj; simp at hj
  · rintro (⟨j, f, hj, hf⟩ | h)
    · exact ⟨j, f, by rw [List.getElem?_append_left (List.getElem?_eq_some_iff.1 hj).1]; exact hj, hf⟩
    · exact ⟨β.length, e, by simp, h⟩

def World.push (w : World) (o : Obj) : World := { w with heap := w.heap.push o }

theorem push_get {w : World} {o : Obj} {b : Nat} (h : b < w.heap.size) : (World.push w o).heap[b]? = w.heap[b]? := by
  show (w.heap.push o)[b]? = _
  rw [Array.getElem?_push, if_neg (by omega)]
theorem push_top {w : World} {o : Obj} : (World.push w o).heap[w.heap.size]? = some o := by
  show (w.heap.push o)[w.heap.size]? = _
  rw [Array.getElem?_push, if_pos rfl]
theorem push_size {w : World} {o : Obj} : (World.push w o).heap.size = w.heap.size + 1 := by
  show (w.heap.push o).size = _
  rw [Array.size_push]

theorem Step.push (w : World) (β : List Ent) (o : Obj) : Step w β (World.push w o) β :=
  ⟨rfl, rfl, rfl, by rw [push_size]; omega, fun b hb _ => push_get hb, fun b hb => .inl hb, fun j e he => ⟨e, he, Nat.le_refl _, fun _ => rfl, fun _ => rfl⟩⟩

/-- a block that nobody owns -/
theorem Inv.push {ext : Nat → Prop} {w : World} {H : List AObj} {β : List Ent} (hI : Inv ext w H β) (o : Obj) : Inv ext (World.push w o) H β :=
  hI.upd (Step.push w β o) hI.len (fun j o e ho he => .inl ⟨ho, he, fun b hb => push_get (hI.sep b ⟨j, e, he, hb⟩).2⟩) hI.uniq
    (fun b hb => ⟨(hI.sep b hb).1, by rw [push_size]; have := (hI.sep b hb).2; omega⟩)

theorem Step.alloc (w : World) (β : List Ent) (o : Obj) (e : Ent) (he : e.blk = some w.heap.size ∨ e.blk = none) : Step w β (World.push w o) (β ++ [e]) where
  os := rfl
  tape := rfl
  output := rfl
  size := by rw [push_size]; omega
  keep := fun b hb _ => push_get hb
  fresh := fun b hb => by
    rcases Blk.append.1 hb with h | h
    · exact .inl h
    · rcases he with h' | h'
      · rw [h'] at h; simp at h; exact .inr (by omega)
      · rw [h'] at h; cases h
  ents := fun j f hf => ⟨f, by rw [List.getElem?_append_left (List.getElem?_eq_some_iff.1 hf).1]; exact hf, Nat.le_refl _, fun _ => rfl, fun _ => rfl⟩

/-- a new owned block; what it holds is shown in the new world. What is foreign lies below. -/
theorem Inv.alloc {ext : Nat → Prop} {w : World} {H : List AObj} {β : List Ent} (hI : Inv ext w H β) (hext : ∀ b, ext b → b < w.heap.size) (o : Obj) (e : Ent) (a : AObj)
    (he : e.blk = some w.heap.size ∨ e.blk = none) (ha : RelO (ctx ext (World.push w o) (β ++ [e])) e a) : Inv ext (World.push w o) (H ++ [a]) (β ++ [e]) := by
  refine hI.upd (Step.alloc w β o e he) (by simp [hI.len]) ?_ ?_ ?_
  · intro j o' f ho hf
    rcases Nat.lt_or_ge j β.length with hlt | hge
    · rw [List.getElem?_append_left hlt] at hf
      rw [List.getElem?_append_left (by rw [← hI.len]; exact hlt)] at ho
      exact .inl ⟨ho, hf, fun b hb => push_get (hI.sep b ⟨j, f, hf, hb⟩).2⟩
    · rw [List.getElem?_append_right hge] at hf
      rw [List.getElem?_append_right (by rw [← hI.len]; exact hge)] at ho
      rw [← hI.len] at ho
      rcases hk : j - β.length with _ | m
      · rw [hk] at ho hf; simp at ho hf; subst ho; subst hf; exact .inr ha
      · rw [hk] at hf; simp at hf
  · intro i j x y b hi hj hx hy
    have old : ∀ (i : Nat) (x : Ent), (β ++ [e])[i]? = some x → x.blk = some b → (β[i]? = some x ∧ b < w.heap.size) ∨ (i = β.length ∧ b = w.heap.size) := by
      intro i x hi hx
      rcases Nat.lt_or_ge i β.length with hlt | hge
      · rw [List.getElem?_append_left hlt] at hi
        exact .inl ⟨hi, (hI.sep b ⟨i, x, hi, hx⟩).2⟩
      · rw [List.getElem?_append_right hge] at hi
        rcases hk : i - β.length with _ | m
        · rw [hk] at hi; simp at hi; subst hi
          rcases he with h' | h'
          · rw [h'] at hx; simp at hx; exact .inr ⟨by omega, hx.symm⟩
          · rw [h'] at hx; cases hx
        · rw [hk] at hi; simp at hi
    rcases old i x hi hx with ⟨h1, h2⟩ | ⟨h1, h2⟩ <;> rcases old j y hj hy with ⟨h3, h4⟩ | ⟨h3, h4⟩
    · exact hI.uniq i j x y b h1 h3 hx hy
    · omega
    · omega
    · omega
  · intro b hb
    rcases Blk.append.1 hb with h | h
    · exact ⟨(hI.sep b h).1, by rw [push_size]; have := (hI.sep b h).2; omega⟩
    · rcases he with h' | h'
      · rw [h'] at h; simp at h
        subst h
        refine ⟨fun hx => ?_, by rw [push_size]; omega⟩
        have := hext _ hx
        omega
      · rw [h'] at h; cases h

/-- an owned block is written in place -/
theorem Step.write {w w' : World} {β : List Ent} {b : Nat} (hb : Blk β b) (hs : w'.heap.size = w.heap.size) (hk : ∀ c, c ≠ b → w'.heap[c]? = w.heap[c]?)
    (ho : w'.os = w.os) (ht : w'.tape = w.tape) (hu : w'.output = w.output) : Step w β w' β :=
  ⟨ho, ht, hu, by omega, fun c _ hn => hk c (fun e => hn (e ▸ hb)), fun b hb => .inl hb, fun j e he => ⟨e, he, Nat.le_refl _, fun _ => rfl, fun _ => rfl⟩⟩

theorem Inv.write {ext : Nat → Prop} {w w' : World} {H : List AObj} {β : List Ent} (hI : Inv ext w H β) {j b : Nat} {e : Ent} {a : AObj} (he : β[j]? = some e) (hb : e.blk = some b)
    (hs : w'.heap.size = w.heap.size) (hk : ∀ c, c ≠ b → w'.heap[c]? = w.heap[c]?) (ho : w'.os = w.os) (ht : w'.tape = w.tape) (hu : w'.output = w.output)
    (ha : RelO (ctx ext w' β) e a) : Inv ext w' (H.set j a) β := by
  refine hI.upd (Step.write ⟨j, e, he, hb⟩ hs hk ho ht hu) (by simp [hI.len]) ?_ hI.uniq (fun b hb => ⟨(hI.sep b hb).1, by rw [hs]; exact (hI.sep b hb).2⟩)
  intro i o f hi hf
  by_cases hij : i = j
  · subst hij
    rw [List.getElem?_set_self (by rw [← hI.len]; exact (List.getElem?_eq_some_iff.1 he).1)] at hi
    simp at hi; subst hi
    rw [he] at hf; simp at hf; subst hf
    exact .inr ha
  · rw [List.getElem?_set_ne (by omega)] at hi
    refine .inl ⟨hi, hf, fun c hc => hk c fun hcb => hij ?_⟩
    subst hcb
    exact hI.uniq i j f e c hf he hc hb

/-- an owned block becomes another one (append, giving up): entry j is e' now -/
theorem Step.move {w : World} {β : List Ent} (o : Obj) {j : Nat} {e e' : Ent} (he : β[j]? = some e) (h0 : e.gen ≠ 0) (hg : e.gen < e'.gen) (hb : e'.blk = some w.heap.size ∨ e'.blk = none ∨ e'.blk = e.blk) :
    Step w β (World.push w o) (β.set j e') where
  os := rfl
  tape := rfl
  output := rfl
  size := by rw [push_size]; omega
  keep := fun b hb _ => push_get hb
  fresh := fun b ⟨i, f, hi, hf⟩ => by
    by_cases hij : i = j
    · subst hij
      rw [List.getElem?_set_self (List.getElem?_eq_some_iff.1 he).1] at hi
      simp at hi; subst hi
      rcases hb with h' | h' | h'
      · rw [h'] at hf; simp at hf; exact .inr (by omega)
      · rw [h'] at hf; cases hf
      · exact .inl ⟨i, e, he, by rw [← h']; exact hf⟩
    · rw [List.getElem?_set_ne (by omega)] at hi
      exact .inl ⟨i, f, hi, hf⟩
  ents := fun i f hf => by
    by_cases hij : i = j
    · subst hij
      rw [he] at hf; simp at hf; subst hf
      exact ⟨e', by rw [List.getElem?_set_self (List.getElem?_eq_some_iff.1 he).1], by omega, fun h => by omega, fun h => absurd h h0⟩
    · exact ⟨f, by rw [List.getElem?_set_ne (by omega)]; exact hf, Nat.le_refl _, fun _ => rfl, fun _ => rfl⟩

theorem Step.regen {w : World} {β : List Ent} {j : Nat} {e e' : Ent} (he : β[j]? = some e) (h0 : e.gen ≠ 0) (hg : e.gen < e'.gen) (hb : e'.blk = none ∨ e'.blk = e.blk) :
    Step w β w (β.set j e') where
  os := rfl
  tape := rfl
  output := rfl
  size := Nat.le_refl _
  keep := fun b hb _ => rfl
  fresh := fun b ⟨i, f, hi, hf⟩ => by
    by_cases hij : i = j
    · subst hij
      rw [List.getElem?_set_self (List.getElem?_eq_some_iff.1 he).1] at hi
      simp at hi; subst hi
      rcases hb with h' | h'
      · rw [h'] at hf; cases hf
      · exact .inl ⟨i, e, he, by rw [← h']; exact hf⟩
    · rw [List.getElem?_set_ne (by omega)] at hi
      exact .inl ⟨i, f, hi, hf⟩
  ents := fun i f hf => by
    by_cases hij : i = j
    · subst hij
      rw [he] at hf; simp at hf; subst hf
      exact ⟨e', by rw [List.getElem?_set_self (List.getElem?_eq_some_iff.1 he).1], by omega, fun h => by omega, fun h => absurd h h0⟩
    · exact ⟨f, by rw [List.getElem?_set_ne (by omega)]; exact hf, Nat.le_refl _, fun _ => rfl, fun _ => rfl⟩

theorem Inv.set {ext : Nat → Prop} {w w' : World} {H : List AObj} {β : List Ent} (hI : Inv ext w H β) (hext : ∀ b, ext b → b < w.heap.size) {j : Nat} {e e' : Ent} {a : AObj} (he : β[j]? = some e)
    (hs : Step w β w' (β.set j e')) (hk : ∀ c, c < w.heap.size → e.blk ≠ some c → w'.heap[c]? = w.heap[c]?)
    (hb : (e'.blk = some w.heap.size ∧ w.heap.size < w'.heap.size) ∨ e'.blk = none ∨ e'.blk = e.blk) (ha : RelO (ctx ext w' (β.set j e')) e' a) : Inv ext w' (H.set j a) (β.set j e') := by
  have hj := (List.getElem?_eq_some_iff.1 he).1
  have cls : ∀ (i : Nat) (f : Ent), (β.set j e')[i]? = some f → (i = j ∧ f = e') ∨ (i ≠ j ∧ β[i]? = some f) := fun i f hi => by
    by_cases hij : i = j
    · subst hij
      rw [List.getElem?_set_self hj] at hi
      simp at hi; exact .inl ⟨rfl, hi.symm⟩
    · rw [List.getElem?_set_ne (by omega)] at hi
      exact .inr ⟨hij, hi⟩
  have hnew : ∀ b, e'.blk = some b → (b = w.heap.size ∧ b < w'.heap.size) ∨ e.blk = some b := fun b h => by
    rcases hb with ⟨h', h2⟩ | h' | h'
    · rw [h'] at h; simp at h; subst h; exact .inl ⟨rfl, h2⟩
    · rw [h'] at h; cases h
    · exact .inr (by rw [← h']; exact h)
  refine hI.upd hs (by simp [hI.len]) ?_ ?_ ?_
  · intro i o f hi hf
    rcases cls i f hf with ⟨h1, h2⟩ | ⟨h1, h2⟩
    · subst h1; subst h2
      rw [List.getElem?_set_self (by rw [← hI.len]; exact hj)] at hi
      simp at hi; subst hi
      exact .inr ha
    · rw [List.getElem?_set_ne (by omega)] at hi
      exact .inl ⟨hi, h2, fun c hc => hk c (hI.sep c ⟨i, f, h2, hc⟩).2 fun hec => h1 (hI.uniq i j f e c h2 he hc hec)⟩
  · intro i k x y b hi hk' hx hy
    rcases cls i x hi with ⟨h1, h2⟩ | ⟨h1, h2⟩ <;> rcases cls k y hk' with ⟨h3, h4⟩ | ⟨h3, h4⟩
    · omega
    · subst h2
      rcases hnew b hx with ⟨h5, _⟩ | h5
      · have := (hI.sep b ⟨k, y, h4, hy⟩).2; omega
      · have := hI.uniq j k e y b he h4 h5 hy; omega
    · subst h4
      rcases hnew b hy with ⟨h5, _⟩ | h5
      · have := (hI.sep b ⟨i, x, h2, hx⟩).2; omega
      · have := hI.uniq i j x e b h2 he hx h5; omega
    · exact hI.uniq i k x y b h2 h4 hx hy
  · rintro b ⟨i, f, hi, hf⟩
    rcases cls i f hi with ⟨h1, h2⟩ | ⟨h1, h2⟩
    · subst h2
      rcases hnew b hf with ⟨h5, h6⟩ | h5
      · refine ⟨fun hx => ?_, h6⟩
        have := hext b hx
        omega
      · have := hI.sep b ⟨j, e, he, h5⟩; exact ⟨this.1, Nat.lt_of_lt_of_le this.2 hs.size⟩
    · have := hI.sep b ⟨i, f, h2, hf⟩; exact ⟨this.1, Nat.lt_of_lt_of_le this.2 hs.size⟩
end Go.AL
