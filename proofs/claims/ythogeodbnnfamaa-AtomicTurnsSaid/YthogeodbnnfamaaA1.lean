/-
  Abstract values, abstract heaps, and what it is for machine values and worlds to be theirs. No conditions.
-/
import Derived.Laws.AppendOwn
import Derived.Orders
import Derived.Below
namespace Go.AL
open Go

inductive AVal where
  | v (x : Value)
  | agg (cs : List AVal)
  | tup (cs : List AVal)
  | sl (xs : List AVal)
  | slf (xs : List AVal)
  | arr (j g : Nat)
  | ptr (j off : Nat)
  | pp (cs : List AVal) (off : Nat)
  | ep (j g k off : Nat)
  | hd (j g off len : Nat)
  | fn (f : Fn) (first captured : List AVal)
  | mp (j : Nat)
  | ifc (t : TypeId) (x : AVal)

def AVal.cells : AVal → List AVal
  | .agg cs => cs
  | x => [x]

/-- where an owned thing lies now: its block, how often it was moved, how many cells its elements have, and for how many elements there is room. -/
structure Ent where
  blk : Option Nat
  gen : Nat
  es : Nat := 1
  cap : Nat := 0
  len : Nat := 0

structure Ctx where
  w : World
  β : List Ent
  bad : Nat → Prop

def rdA (w : World) (A : Option Addr) (i : Nat) : Option Value :=
  match A with
  | some a => w.cell? ⟨a.block, a.off + i, none⟩
  | none => none

def baseOk (c : Ctx) (A : Option Addr) : Prop := ∃ b o, A = some ⟨b, o, none⟩ ∧ ¬ c.bad b ∧ b < c.w.heap.size

mutual
def Rel (c : Ctx) : AVal → Value → Prop
  | .v x, u => u = x
  | .agg cs, u => ∃ a, u = .agg a ∧ RelL c cs a.toList
  | .tup cs, u => ∃ a, u = .tuple a ∧ RelL c cs a.toList
  | .sl xs, u => ∃ A m es, u = .slice A xs.length m ∧ xs.length ≤ m ∧ (xs ≠ [] → baseOk c A) ∧ RelR { c with β := [] } es (rdA c.w A) 0 xs
  | .slf xs, u => ∃ A es, u = .slice A xs.length xs.length ∧ (xs ≠ [] → baseOk c A) ∧ RelR { c with β := [] } es (rdA c.w A) 0 xs
  | .arr j g, u => u.oneCell' = true ∧ ∃ e, c.β[j]? = some e ∧ g ≤ e.gen ∧ (e.gen = g → e.len ≤ e.cap ∧
      match e.blk with
      | none => e.len = 0 ∧ ∃ A, u = .slice A 0 0
      | some b => u = .slice (some ⟨b, 0, none⟩) e.len e.cap)
  | .ptr j off, u => ∃ e b, c.β[j]? = some e ∧ e.gen = 0 ∧ e.blk = some b ∧ u = .pointer (some ⟨b, off, none⟩)
  | .pp cs off, u => ∃ b o us, u = .pointer (some ⟨b, o + off, none⟩) ∧ ¬ c.bad b ∧ b < c.w.heap.size ∧ RelL { c with β := [] } cs us ∧
      ∀ i, i < us.length → c.w.cell? ⟨b, o + i, none⟩ = us[i]?
  | .ep j g k off, u => u.oneCell' = true ∧ ∃ e, c.β[j]? = some e ∧ g ≤ e.gen ∧ (e.gen = g → ∃ b, e.blk = some b ∧ u = .pointer (some ⟨b, k * e.es + off, none⟩))
  | .hd j g off len, u => u.oneCell' = true ∧ ∃ e, c.β[j]? = some e ∧ g ≤ e.gen ∧ (e.gen = g → ∃ b o m, e.blk = some b ∧ off + len ≤ e.cap ∧ u = .slice (some ⟨b, o, none⟩) len m ∧
      (len ≠ 0 ∨ off = 0 → o = off * e.es ∧ m = e.cap - off))
  | .fn f first captured, u => ∃ a1 a2, u = .func f a1 a2 ∧ RelL c first a1.toList ∧ RelL c captured a2.toList
  | .mp j, u => ∃ e b, c.β[j]? = some e ∧ e.gen = 0 ∧ e.blk = some b ∧ u = .map (some b)
  | .ifc t x, u => ∃ y, u = .iface t y ∧ Rel c x y
def RelL (c : Ctx) : List AVal → List Value → Prop
  | [], us => us = []
  | x :: xs, us => ∃ u us', us = u :: us' ∧ Rel c x u ∧ RelL c xs us'
def RelR (c : Ctx) (es : Nat) (rd : Nat → Option Value) : Nat → List AVal → Prop
  | _, [] => True
  | k, x :: xs => (∃ u, Rel c x u ∧ u.cells.size = es ∧ ∀ i, i < es → rd (k * es + i) = u.cells[i]?) ∧ RelR c es rd (k + 1) xs
end

/-- The context c' knows at least what c knows. -/
structure Ctx.le (c c' : Ctx) : Prop where
  old : ∀ b, b < c.w.heap.size → ¬ c.bad b → b < c'.w.heap.size ∧ ¬ c'.bad b ∧ c'.w.heap[b]? = c.w.heap[b]?
  ents : ∀ (j : Nat) (e : Ent), c.β[j]? = some e → ∃ e', c'.β[j]? = some e' ∧ e.gen ≤ e'.gen ∧ (e'.gen = e.gen → e' = e) ∧ (e.gen = 0 → e' = e)

theorem Ctx.le.bare {c c' : Ctx} (h : c.le c') : Ctx.le { c with β := [] } { c' with β := [] } := ⟨h.old, fun (j : Nat) (e : Ent) he => by simp at he⟩

theorem cell_of_block {w w' : World} {b : Nat} (h : w'.heap[b]? = w.heap[b]?) (o : Nat) : w'.cell? ⟨b, o, none⟩ = w.cell? ⟨b, o, none⟩ := by
  simp only [World.cell?, h]

theorem baseOk.le {c c' : Ctx} (h : c.le c') {A : Option Addr} (hA : baseOk c A) : baseOk c' A := by
  obtain ⟨b, o, rfl, hb, hs⟩ := hA
  obtain ⟨h1, h2, _⟩ := h.old b hs hb
  exact ⟨b, o, rfl, h2, h1⟩

theorem rdA_le {c c' : Ctx} (h : c.le c') {A : Option Addr} (hA : baseOk c A) : rdA c'.w A = rdA c.w A := by
  obtain ⟨b, o, rfl, hb, hs⟩ := hA
  obtain ⟨_, _, h3⟩ := h.old b hs hb
  funext i
  exact cell_of_block h3 _

mutual
theorem Rel.le {c c' : Ctx} (h : c.le c') : ∀ (a : AVal) (u : Value), Rel c a u → Rel c' a u
  | .v x, u, r => r
  | .agg cs, u, ⟨a, e, r⟩ => ⟨a, e, RelL.le h cs _ r⟩
  | .tup cs, u, ⟨a, e, r⟩ => ⟨a, e, RelL.le h cs _ r⟩
  | .sl xs, u, ⟨A, m, es, e, hm, hA, r⟩ => ⟨A, m, es, e, hm, fun hx => (hA hx).le h, by
      by_cases hx : xs = []
      · subst hx; trivial
      · rw [rdA_le h (hA hx)]; exact RelR.le h.bare xs es _ 0 r⟩
  | .slf xs, u, ⟨A, es, e, hA, r⟩ => ⟨A, es, e, fun hx => (hA hx).le h, by
      by_cases hx : xs = []
      · subst hx; trivial
      · rw [rdA_le h (hA hx)]; exact RelR.le h.bare xs es _ 0 r⟩
  | .arr j g, u, ⟨h1, e, he, hg, hu⟩ => by
      obtain ⟨e', he', hle, heq, _⟩ := h.ents j e he
      refine ⟨h1, e', he', Nat.le_trans hg hle, fun hg' => ?_⟩
      have : e'.gen = e.gen := by omega
      obtain rfl := heq this
      exact hu hg'
  | .ptr j off, u, ⟨e, b, he, h0, hu⟩ => by
      obtain ⟨e', he', _, _, heq⟩ := h.ents j e he
      obtain rfl := heq h0
      exact ⟨e', b, he', h0, hu⟩
  | .pp cs off, u, ⟨b, o, us, e, hb, hs, r, hc⟩ => by
      obtain ⟨h1, h2, h3⟩ := h.old b hs hb
      exact ⟨b, o, us, e, h2, h1, RelL.le h.bare cs us r, fun i hi => (cell_of_block h3 _).trans (hc i hi)⟩
  | .ep j g k off, u, ⟨h1, e, he, hg, hu⟩ => by
      obtain ⟨e', he', hle, heq, _⟩ := h.ents j e he
      refine ⟨h1, e', he', Nat.le_trans hg hle, fun hg' => ?_⟩
      have : e'.gen = e.gen := by omega
      obtain rfl := heq this
      exact hu hg'
  | .hd j g off len, u, ⟨h1, e, he, hg, hu⟩ => by
      obtain ⟨e', he', hle, heq, _⟩ := h.ents j e he
      refine ⟨h1, e', he', Nat.le_trans hg hle, fun hg' => ?_⟩
      have : e'.gen = e.gen := by omega
      obtain rfl := heq this
      exact hu hg'
  | .fn f fs cs, u, ⟨a1, a2, e, r1, r2⟩ => ⟨a1, a2, e, RelL.le h fs _ r1, RelL.le h cs _ r2⟩
  | .mp j, u, ⟨e, b, he, h0, hu⟩ => by
      obtain ⟨e', he', _, _, heq⟩ := h.ents j e he
      obtain rfl := heq h0
      exact ⟨e', b, he', h0, hu⟩
  | .ifc t x, u, ⟨y, e, r⟩ => ⟨y, e, Rel.le h x y r⟩
theorem RelL.le {c c' : Ctx} (h : c.le c') : ∀ (as : List AVal) (us : List Value), RelL c as us → RelL c' as us
  | [], us, r => r
  | x :: xs, us, ⟨u, us', e, r, rs⟩ => ⟨u, us', e, Rel.le h x u r, RelL.le h xs us' rs⟩
theorem RelR.le {c c' : Ctx} (h : c.le c') : ∀ (as : List AVal) (es : Nat) (rd : Nat → Option Value) (k : Nat), RelR c es rd k as → RelR c' es rd k as
  | [], _, _, _, _ => trivial
  | x :: xs, es, rd, k, ⟨⟨u, r, hs, hrd⟩, rs⟩ => ⟨⟨u, Rel.le h x u r, hs, hrd⟩, RelR.le h xs es rd (k + 1) rs⟩
end

theorem RelL.length {c : Ctx} : ∀ {as : List AVal} {us : List Value}, RelL c as us → us.length = as.length
  | [], us, h => by cases h; rfl
  | x :: xs, us, ⟨u, us', e, _, rs⟩ => by subst e; simp [RelL.length rs]

theorem RelL.get {c : Ctx} : ∀ {as : List AVal} {us : List Value}, RelL c as us → ∀ {i : Nat} {a : AVal}, as[i]? = some a → ∃ u, us[i]? = some u ∧ Rel c a u
  | [], us, _, i, a, ha => by simp at ha
  | x :: xs, us, ⟨u, us', e, r, rs⟩, i, a, ha => by
    subst e
    cases i with
    | zero => simp at ha; subst ha; exact ⟨u, rfl, r⟩
    | succ i => simp at ha; simpa using RelL.get rs ha

theorem RelL.of_get {c : Ctx} : ∀ {as : List AVal} {us : List Value}, us.length = as.length → (∀ (i : Nat) (a : AVal), as[i]? = some a → ∃ u, us[i]? = some u ∧ Rel c a u) → RelL c as us
  | [], us, hl, _ => List.length_eq_zero_iff.1 hl
  | x :: xs, [], hl, _ => by simp at hl
  | x :: xs, u :: us, hl, h => by
    refine ⟨u, us, rfl, ?_, RelL.of_get (by simpa using hl) fun i a ha => by simpa using h (i + 1) a (by simpa using ha)⟩
    obtain ⟨u', h1, h2⟩ := h 0 x rfl
    simp at h1; subst h1; exact h2

theorem RelL.append {c : Ctx} : ∀ {as bs : List AVal} {us vs : List Value}, RelL c as us → RelL c bs vs → RelL c (as ++ bs) (us ++ vs)
  | [], _, us, _, h, h' => by cases h; exact h'
  | x :: xs, _, us, _, ⟨u, us', e, r, rs⟩, h' => by subst e; exact ⟨u, us' ++ _, rfl, r, RelL.append rs h'⟩

theorem RelL.take {c : Ctx} : ∀ {as : List AVal} {us : List Value} (n : Nat), RelL c as us → RelL c (as.take n) (us.take n)
  | _, us, 0, _ => by simp [RelL]
  | [], us, n + 1, h => by cases h; simp [RelL]
  | x :: xs, us, n + 1, ⟨u, us', e, r, rs⟩ => by subst e; exact ⟨u, us'.take n, rfl, r, RelL.take n rs⟩

theorem RelL.drop {c : Ctx} : ∀ {as : List AVal} {us : List Value} (n : Nat), RelL c as us → RelL c (as.drop n) (us.drop n)
  | _, us, 0, h => h
  | [], us, n + 1, h => by cases h; simp [RelL]
  | x :: xs, us, n + 1, ⟨u, us', e, r, rs⟩ => by subst e; simpa using RelL.drop n rs

theorem RelL.set {c : Ctx} : ∀ {as : List AVal} {us : List Value} {a : AVal} {u : Value} (n : Nat), RelL c as us → Rel c a u → RelL c (as.set n a) (us.set n u)
  | [], us, a, u, n, h, _ => by cases h; simp [RelL]
  | x :: xs, us, a, u, 0, ⟨u0, us', e, r, rs⟩, h => by subst e; exact ⟨u, us', rfl, h, rs⟩
  | x :: xs, us, a, u, n + 1, ⟨u0, us', e, r, rs⟩, h => by subst e; exact ⟨u0, us'.set n u, rfl, r, RelL.set n rs h⟩

theorem RelL.replicate {c : Ctx} {a : AVal} {u : Value} (h : Rel c a u) : ∀ n, RelL c (List.replicate n a) (List.replicate n u)
  | 0 => rfl
  | n + 1 => ⟨u, List.replicate n u, rfl, h, RelL.replicate h n⟩

theorem RelR.get {c : Ctx} {es : Nat} {rd : Nat → Option Value} : ∀ {as : List AVal} {k : Nat}, RelR c es rd k as → ∀ {i : Nat} {a : AVal}, as[i]? = some a →
    ∃ u, Rel c a u ∧ u.cells.size = es ∧ ∀ q, q < es → rd ((k + i) * es + q) = u.cells[q]?
  | [], k, _, i, a, ha => by simp at ha
  | x :: xs, k, ⟨hx, rs⟩, i, a, ha => by
    cases i with
    | zero => simp at ha; subst ha; simpa using hx
    | succ i =>
      simp at ha
      have := RelR.get rs ha
      rwa [show k + 1 + i = k + (i + 1) by omega] at this

theorem RelR.of_get {c : Ctx} {es : Nat} {rd : Nat → Option Value} : ∀ {as : List AVal} {k : Nat},
    (∀ (i : Nat) (a : AVal), as[i]? = some a → ∃ u, Rel c a u ∧ u.cells.size = es ∧ ∀ q, q < es → rd ((k + i) * es + q) = u.cells[q]?) → RelR c es rd k as
  | [], k, _ => trivial
  | x :: xs, k, h => ⟨by simpa using h 0 x rfl, RelR.of_get fun i a ha => by
      have := h (i + 1) a (by simpa using ha)
      rwa [show k + (i + 1) = k + 1 + i by omega] at this⟩

/-- a value of one cell -/
theorem oneCell_cells {u : Value} (h : u.oneCell' = true) : u.cells.toList = [u] := by
  cases u <;> simp_all [Value.cells, Value.oneCell']

/-- may it stand in memory? -/
def AVal.one : AVal → Bool
  | .v x => x.oneCell'
  | .agg _ | .tup _ => false
  | _ => true
def AVal.flat : AVal → Bool
  | .agg cs => cs.all AVal.one
  | .tup _ => false
  | .v x => x.oneCell'
  | _ => true

theorem Rel.one {c : Ctx} {a : AVal} {u : Value} (h : Rel c a u) (hv : a.one = true) : u.oneCell' = true := by
  cases a with
  | v x => have h0 : u = x := h; subst h0; exact hv
  | agg cs => simp [AVal.one] at hv
  | tup cs => simp [AVal.one] at hv
  | sl xs => obtain ⟨A, m, es, rfl, _⟩ := h; rfl
  | slf xs => obtain ⟨A, es, rfl, _⟩ := h; rfl
  | pp xs o => obtain ⟨b, o, us, rfl, _⟩ := h; rfl
  | fn => obtain ⟨b, o, rfl, _⟩ := h; rfl
  | ifc => obtain ⟨y, rfl, _⟩ := h; rfl
  | arr => exact h.1
  | ptr => obtain ⟨e, b, _, _, _, rfl⟩ := h; rfl
  | ep => exact h.1
  | hd => exact h.1
  | mp => obtain ⟨e, b, _, _, _, rfl⟩ := h; rfl

theorem RelL.ones {c : Ctx} : ∀ {as : List AVal} {us : List Value}, RelL c as us → as.all AVal.one = true → ∀ u ∈ us, u.oneCell' = true
  | [], us, h, _ => by cases h; simp
  | x :: xs, us, ⟨u, us', e, r, rs⟩, ho => by
    subst e
    simp only [List.all_cons, Bool.and_eq_true] at ho
    intro y hy
    cases List.mem_cons.1 hy with
    | inl e => subst e; exact r.one ho.1
    | inr hm => exact RelL.ones rs ho.2 y hm

/-- a value's cells are those of what it stands for -/
theorem Rel.cells {c : Ctx} {a : AVal} {u : Value} (h : Rel c a u) (hv : a.flat = true) : RelL c a.cells u.cells.toList ∧ ∀ x ∈ u.cells.toList, x.oneCell' = true := by
  cases a with
  | agg cs => obtain ⟨a, rfl, r⟩ := h; exact ⟨r, r.ones hv⟩
  | tup cs => simp [AVal.flat] at hv
  | v x =>
    have h1 : u.oneCell' = true := Rel.one h hv
    rw [oneCell_cells h1]
    exact ⟨⟨u, [], rfl, h, rfl⟩, by simpa using h1⟩
  | _ =>
    have h1 : u.oneCell' = true := Rel.one h rfl
    rw [oneCell_cells h1]
    exact ⟨⟨u, [], rfl, h, rfl⟩, by simpa using h1⟩
end Go.AL
