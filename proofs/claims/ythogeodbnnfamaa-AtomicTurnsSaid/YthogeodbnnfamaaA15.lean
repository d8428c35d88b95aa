/-
  A call from a greater heap: what a function is handed of owned things is picked out, and put back. No conditions.
-/
import Derived.Test.YthogeodbnnfamaaA14
set_option linter.unusedVariables false
set_option linter.unusedSimpArgs false
namespace Go.AL
open Go

section
variable {P : Program}

mutual
def rnV (τ : Nat → Nat) : AVal → AVal
  | .v x => .v x
  | .agg cs => .agg (rnL τ cs)
  | .tup cs => .tup (rnL τ cs)
  | .sl xs => .sl xs
  | .slf xs => .slf xs
  | .arr j g => .arr (τ j) g
  | .ptr j off => .ptr (τ j) off
  | .pp cs off => .pp cs off
  | .ep j g k off => .ep (τ j) g k off
  | .fn f a b => .fn f (rnL τ a) (rnL τ b)
  | .mp j => .mp (τ j)
  | .hd j g off len => .hd (τ j) g off len
  | .ifc t x => .ifc t (rnV τ x)
def rnL (τ : Nat → Nat) : List AVal → List AVal
  | [] => []
  | x :: xs => rnV τ x :: rnL τ xs
end
mutual
/-- it hangs on owned things below n alone -/
def ltV (n : Nat) : AVal → Bool
  | .v _ | .sl _ | .slf _ | .pp _ _ => true
  | .agg cs | .tup cs => ltL n cs
  | .arr j _ | .ptr j _ | .ep j _ _ _ | .mp j | .hd j _ _ _ => Nat.blt j n
  | .fn _ a b => ltL n a && ltL n b
  | .ifc _ x => ltV n x
def ltL (n : Nat) : List AVal → Bool
  | [] => true
  | x :: xs => ltV n x && ltL n xs
end
def rnM (τ : Nat → Nat) : List (Value × AVal × Nat) → List (Value × AVal × Nat)
  | [] => []
  | (k, x, n) :: es => (k, rnV τ x, n) :: rnM τ es
def ltM (n : Nat) : List (Value × AVal × Nat) → Bool
  | [] => true
  | (_, x, _) :: es => ltV n x && ltM n es
def rnO (τ : Nat → Nat) : AObj → AObj
  | .box t cs => .box t (rnL τ cs)
  | .map es c => .map (rnM τ es) c
  | o => o
def ltO (n : Nat) : AObj → Bool
  | .box _ cs => ltL n cs
  | .map es _ => ltM n es
  | _ => true

theorem rnL_one {τ : Nat → Nat} : ∀ {cs : List AVal}, (rnL τ cs).all AVal.one = cs.all AVal.one
  | [] => rfl
  | x :: xs => by
    simp only [rnL, List.all_cons, rnL_one (cs := xs)]
    cases x <;> rfl

/-- from the greater heap into the lesser one -/
structure Into (c c' : Ctx) (τ : Nat → Nat) (n : Nat) : Prop where
  w : c'.w = c.w
  bad : c'.bad = c.bad
  get : ∀ i, i < n → c'.β[i]? = c.β[τ i]?

mutual
theorem rnV_into {c c' : Ctx} {τ : Nat → Nat} {n : Nat} (h : Into c c' τ n) : ∀ (a : AVal) (u : Value), ltV n a = true → Rel c (rnV τ a) u → Rel c' a u
  | .v x, u, _, r => r
  | .agg cs, u, hl, r => by
    obtain ⟨a, e, r⟩ := r
    exact ⟨a, e, rnL_into h cs _ hl r⟩
  | .tup cs, u, hl, r => by
    obtain ⟨a, e, r⟩ := r
    exact ⟨a, e, rnL_into h cs _ hl r⟩
  | .sl xs, u, _, r => by
    obtain ⟨A, m, es, h1, h2, h3, h4⟩ := r
    refine ⟨A, m, es, h1, h2, ?_, ?_⟩
    · unfold baseOk; rw [h.w, h.bad]; exact h3
    · rw [h.w, h.bad]; exact h4
  | .slf xs, u, _, r => by
    obtain ⟨A, es, h1, h3, h4⟩ := r
    refine ⟨A, es, h1, ?_, ?_⟩
    · unfold baseOk; rw [h.w, h.bad]; exact h3
    · rw [h.w, h.bad]; exact h4
  | .arr j g, u, hl, r => by
    obtain ⟨h0, e, he, hg, hu⟩ := r
    exact ⟨h0, e, by rw [h.get j (Nat.le_of_ble_eq_true hl)]; exact he, hg, hu⟩
  | .ptr j off, u, hl, r => by
    obtain ⟨e, b, he, hu⟩ := r
    exact ⟨e, b, by rw [h.get j (Nat.le_of_ble_eq_true hl)]; exact he, hu⟩
  | .pp cs off, u, _, r => by
    obtain ⟨b, o, us, h1, h2, h3, h4, h5⟩ := r
    refine ⟨b, o, us, h1, ?_, ?_, ?_, ?_⟩
    · rw [h.bad]; exact h2
    · rw [h.w]; exact h3
    · rw [h.w, h.bad]; exact h4
    · rw [h.w]; exact h5
  | .ep j g k off, u, hl, r => by
    obtain ⟨h0, e, he, hg, hu⟩ := r
    exact ⟨h0, e, by rw [h.get j (Nat.le_of_ble_eq_true hl)]; exact he, hg, hu⟩
  | .fn f a b, u, hl, r => by
    obtain ⟨a1, a2, e, r1, r2⟩ := r
    simp only [ltV, Bool.and_eq_true] at hl
    exact ⟨a1, a2, e, rnL_into h a _ hl.1 r1, rnL_into h b _ hl.2 r2⟩
  | .hd j g off len, u, hl, r => by
    obtain ⟨h0, e, he, hg, hu⟩ := r
    exact ⟨h0, e, by rw [h.get j (Nat.le_of_ble_eq_true hl)]; exact he, hg, hu⟩
  | .mp j, u, hl, r => by
    obtain ⟨e, b, he, hu⟩ := r
    exact ⟨e, b, by rw [h.get j (Nat.le_of_ble_eq_true hl)]; exact he, hu⟩
  | .ifc t x, u, hl, r => by
    obtain ⟨y, e, r⟩ := r
    exact ⟨y, e, rnV_into h x y hl r⟩
theorem rnL_into {c c' : Ctx} {τ : Nat → Nat} {n : Nat} (h : Into c c' τ n) : ∀ (as : List AVal) (us : List Value), ltL n as = true → RelL c (rnL τ as) us → RelL c' as us
  | [], us, _, r => r
  | x :: xs, us, hl, r => by
    obtain ⟨u, us', e, r, rs⟩ := r
    simp only [ltL, Bool.and_eq_true] at hl
    exact ⟨u, us', e, rnV_into h x u hl.1 r, rnL_into h xs us' hl.2 rs⟩
end

/-- and back -/
structure Outof (c c' : Ctx) (τ : Nat → Nat) : Prop where
  w : c'.w = c.w
  bad : c'.bad = c.bad
  get : ∀ (i : Nat) (e : Ent), c.β[i]? = some e → c'.β[τ i]? = some e

mutual
theorem rnV_out {c c' : Ctx} {τ : Nat → Nat} (h : Outof c c' τ) : ∀ (a : AVal) (u : Value), Rel c a u → Rel c' (rnV τ a) u
  | .v x, u, r => r
  | .agg cs, u, r => by
    obtain ⟨a, e, r⟩ := r
    exact ⟨a, e, rnL_out h cs _ r⟩
  | .tup cs, u, r => by
    obtain ⟨a, e, r⟩ := r
    exact ⟨a, e, rnL_out h cs _ r⟩
  | .sl xs, u, r => by
    obtain ⟨A, m, es, h1, h2, h3, h4⟩ := r
    refine ⟨A, m, es, h1, h2, ?_, ?_⟩
    · unfold baseOk; rw [h.w, h.bad]; exact h3
    · rw [h.w, h.bad]; exact h4
  | .slf xs, u, r => by
    obtain ⟨A, es, h1, h3, h4⟩ := r
    refine ⟨A, es, h1, ?_, ?_⟩
    · unfold baseOk; rw [h.w, h.bad]; exact h3
    · rw [h.w, h.bad]; exact h4
  | .arr j g, u, r => by
    obtain ⟨h0, e, he, hg, hu⟩ := r
    exact ⟨h0, e, h.get j e he, hg, hu⟩
  | .ptr j off, u, r => by
    obtain ⟨e, b, he, hu⟩ := r
    exact ⟨e, b, h.get j e he, hu⟩
  | .pp cs off, u, r => by
    obtain ⟨b, o, us, h1, h2, h3, h4, h5⟩ := r
    refine ⟨b, o, us, h1, ?_, ?_, ?_, ?_⟩
    · rw [h.bad]; exact h2
    · rw [h.w]; exact h3
    · rw [h.w, h.bad]; exact h4
    · rw [h.w]; exact h5
  | .ep j g k off, u, r => by
    obtain ⟨h0, e, he, hg, hu⟩ := r
    exact ⟨h0, e, h.get j e he, hg, hu⟩
  | .fn f a b, u, r => by
    obtain ⟨a1, a2, e, r1, r2⟩ := r
    exact ⟨a1, a2, e, rnL_out h a _ r1, rnL_out h b _ r2⟩
  | .hd j g off len, u, r => by
    obtain ⟨h0, e, he, hg, hu⟩ := r
    exact ⟨h0, e, h.get j e he, hg, hu⟩
  | .mp j, u, r => by
    obtain ⟨e, b, he, hu⟩ := r
    exact ⟨e, b, h.get j e he, hu⟩
  | .ifc t x, u, r => by
    obtain ⟨y, e, r⟩ := r
    exact ⟨y, e, rnV_out h x y r⟩
theorem rnL_out {c c' : Ctx} {τ : Nat → Nat} (h : Outof c c' τ) : ∀ (as : List AVal) (us : List Value), RelL c as us → RelL c' (rnL τ as) us
  | [], us, r => r
  | x :: xs, us, r => by
    obtain ⟨u, us', e, r, rs⟩ := r
    exact ⟨u, us', e, rnV_out h x u r, rnL_out h xs us' rs⟩
end

theorem rnM_into {c c' : Ctx} {τ : Nat → Nat} {n : Nat} (h : Into c c' τ n) : ∀ (es : List (Value × AVal × Nat)) (ms : List MapEntry), ltM n es = true → RelM c (rnM τ es) ms → RelM c' es ms
  | [], ms, _, r => r
  | (k, x, b) :: es, ms, hl, r => by
    obtain ⟨m, ms', e, e1, e2, r, rs⟩ := r
    simp only [ltM, Bool.and_eq_true] at hl
    exact ⟨m, ms', e, e1, e2, rnV_into h x _ hl.1 r, rnM_into h es ms' hl.2 rs⟩
theorem rnM_out {c c' : Ctx} {τ : Nat → Nat} (h : Outof c c' τ) : ∀ (es : List (Value × AVal × Nat)) (ms : List MapEntry), RelM c es ms → RelM c' (rnM τ es) ms
  | [], ms, r => r
  | (k, x, b) :: es, ms, r => by
    obtain ⟨m, ms', e, e1, e2, r, rs⟩ := r
    exact ⟨m, ms', e, e1, e2, rnV_out h x _ r, rnM_out h es ms' rs⟩

theorem rnO_into {c c' : Ctx} {τ : Nat → Nat} {n : Nat} (h : Into c c' τ n) {e : Ent} {o : AObj} (hl : ltO n o = true) (r : RelO c e (rnO τ o)) : RelO c' e o := by
  cases o with
  | box t cs =>
    obtain ⟨h1, h2, b, us, h3, h4, h5⟩ := r
    exact ⟨h1, by rw [← rnL_one (τ := τ)]; exact h2, b, us, h3, by rw [h.w]; exact h4, rnL_into h cs _ hl h5⟩
  | arr g t es xs =>
    obtain ⟨k1, k0, k2, k3, k4, k5⟩ := r
    refine ⟨k1, k0, k2, k3, k4, ?_⟩
    cases hb : e.blk with
    | none => rw [hb] at k5; exact k5
    | some b =>
      rw [hb] at k5
      obtain ⟨us, w1, w2, w3⟩ := k5
      exact ⟨us, by rw [h.w]; exact w1, w2, by rw [h.w, h.bad]; exact w3⟩
  | raw x => obtain ⟨h1, b, h2, h3⟩ := r; exact ⟨h1, b, h2, by rw [h.w]; exact h3⟩
  | map es k => obtain ⟨h1, b, ms, h2, h3, h4⟩ := r; exact ⟨h1, b, ms, h2, by rw [h.w]; exact h3, rnM_into h es _ hl h4⟩
  | dead g => exact r
  | row g t es xs =>
    obtain ⟨h1, h0, h2, hl, h3, b, us, h4, h5, h6, h7⟩ := r
    exact ⟨h1, h0, h2, hl, h3, b, us, h4, by rw [h.w]; exact h5, h6, by rw [h.w, h.bad]; exact h7⟩

theorem rnO_out {c c' : Ctx} {τ : Nat → Nat} (h : Outof c c' τ) {e : Ent} {o : AObj} (r : RelO c e o) : RelO c' e (rnO τ o) := by
  cases o with
  | box t cs =>
    obtain ⟨h1, h2, b, us, h3, h4, h5⟩ := r
    exact ⟨h1, by rw [rnL_one]; exact h2, b, us, h3, by rw [h.w]; exact h4, rnL_out h cs _ h5⟩
  | arr g t es xs =>
    obtain ⟨k1, k0, k2, k3, k4, k5⟩ := r
    refine ⟨k1, k0, k2, k3, k4, ?_⟩
    cases hb : e.blk with
    | none => rw [hb] at k5; exact k5
    | some b =>
      rw [hb] at k5
      obtain ⟨us, w1, w2, w3⟩ := k5
      exact ⟨us, by rw [h.w]; exact w1, w2, by rw [h.w, h.bad]; exact w3⟩
  | raw x => obtain ⟨h1, b, h2, h3⟩ := r; exact ⟨h1, b, h2, by rw [h.w]; exact h3⟩
  | map es k => obtain ⟨h1, b, ms, h2, h3, h4⟩ := r; exact ⟨h1, b, ms, h2, by rw [h.w]; exact h3, rnM_out h es _ h4⟩
  | dead g => exact r
  | row g t es xs =>
    obtain ⟨h1, h0, h2, hl, h3, b, us, h4, h5, h6, h7⟩ := r
    exact ⟨h1, h0, h2, hl, h3, b, us, h4, by rw [h.w]; exact h5, h6, by rw [h.w, h.bad]; exact h7⟩

/-- where the lesser heap's things stand in the greater one: the handed ones, and behind all what is new -/
def tau (σ : List Nat) (N : Nat) (i : Nat) : Nat := match σ[i]? with
  | some j => j
  | none => N + (i - σ.length)

def putBack (τ : Nat → Nat) : List Nat → List AObj → List AObj → List AObj
  | [], Hc, Ho => Hc ++ Ho.map (rnO τ)
  | j :: σ, Hc, o :: Ho => putBack τ σ (Hc.set j (rnO τ o)) Ho
  | _ :: σ, Hc, [] => Hc

def sigOk (σ : List Nat) (N : Nat) : Bool := σ.all (Nat.blt · N) && keepOk.nodupB σ

theorem putBack_get {τ : Nat → Nat} : ∀ {σ : List Nat} {Hc Ho : List AObj}, keepOk.nodupB σ = true → (∀ j ∈ σ, j < Hc.length) → σ.length ≤ Ho.length →
    (putBack τ σ Hc Ho).length = Hc.length + (Ho.length - σ.length) ∧ (∀ (i j : Nat) (o : AObj), σ[i]? = some j → Ho[i]? = some o → (putBack τ σ Hc Ho)[j]? = some (rnO τ o)) ∧
      (∀ j, j < Hc.length → j ∉ σ → (putBack τ σ Hc Ho)[j]? = Hc[j]?) ∧ (∀ k, (putBack τ σ Hc Ho)[Hc.length + k]? = (Ho[σ.length + k]?).map (rnO τ))
  | [], Hc, Ho, _, _, _ => by
    refine ⟨by simp [putBack], fun i j o h => by simp at h, fun j hj _ => ?_, fun k => ?_⟩
    · simp only [putBack]; rw [List.getElem?_append_left hj]
    · simp only [putBack]; rw [List.getElem?_append_right (by omega)]; simp
  | j :: σ, Hc, [], _, _, hl => by simp at hl
  | j :: σ, Hc, o :: Ho, hn, hb, hl => by
    simp only [keepOk.nodupB, Bool.and_eq_true, Bool.not_eq_true'] at hn
    have hj : j < Hc.length := hb j (List.mem_cons_self ..)
    have hjn : j ∉ σ := fun hm => by
      have : σ.any (Nat.beq j) = true := List.any_eq_true.2 ⟨j, hm, by simp⟩
      rw [this] at hn; simp at hn
    obtain ⟨g1, g2, g3, g4⟩ := putBack_get (τ := τ) (σ := σ) (Hc := Hc.set j (rnO τ o)) (Ho := Ho) hn.2 (fun k hk => by simpa using hb k (List.mem_cons_of_mem _ hk)) (by simpa using hl)
    simp only [List.length_set] at g1 g3 g4
    refine ⟨by simp only [putBack, g1, List.length_cons]; omega, fun i k q hi hq => ?_, fun k hk hkn => ?_, fun k => ?_⟩
    · simp only [putBack]
      cases i with
      | zero =>
        simp at hi hq; subst hi; subst hq
        rw [g3 j hj hjn, List.getElem?_set_self hj]
      | succ i => exact g2 i k q (by simpa using hi) (by simpa using hq)
    · simp only [putBack]
      have hkj : k ≠ j := fun e => hkn (e ▸ List.mem_cons_self ..)
      rw [g3 k hk (fun hm => hkn (List.mem_cons_of_mem _ hm)), List.getElem?_set_ne (by omega)]
    · simp only [putBack]
      rw [g4 k, show (j :: σ).length + k = (σ.length + k) + 1 by rw [List.length_cons]; omega]
      rfl

def idxOf (σ : List Nat) (j : Nat) : Option Nat := kap.posIn j σ 0

theorem idxOf_some {σ : List Nat} {i j : Nat} (h : idxOf σ j = some i) : σ[i]? = some j := by
  obtain ⟨_, h2⟩ := posIn_get h
  simpa using h2
theorem idxOf_none {σ : List Nat} {j : Nat} (h : idxOf σ j = none) : j ∉ σ := fun hm => by
  obtain ⟨i, hi, hij⟩ := List.getElem_of_mem hm
  exact posIn_none h i (by rw [List.getElem?_eq_getElem hi, hij])
theorem idxOf_get {σ : List Nat} (hn : keepOk.nodupB σ = true) {i j : Nat} (h : σ[i]? = some j) : idxOf σ j = some i := by
  cases hx : idxOf σ j with
  | none => exact absurd (List.mem_of_getElem? h) (idxOf_none hx)
  | some k => rw [nodupB_inj hn i k j h (idxOf_some hx)]

/-- A CALL FROM A GREATER HEAP. -/
theorem ACalls.from {f : FuncId} {args : List AVal} {H Hc : List AObj} {Q : Eff} (h : ACalls P f args H Q) (σ : List Nat) (hσ : sigOk σ Hc.length = true) (hl : σ.length = H.length)
    (ha : ltL σ.length args = true) (ho : H.all (ltO σ.length) = true) (hH : ∀ (i j : Nat), σ[i]? = some j → Hc[j]? = (H[i]?).map (rnO (tau σ Hc.length))) :
    ACalls P f (rnL (tau σ Hc.length) args) Hc (fun r G => ∃ r0 Ho, Q r0 Ho ∧ σ.length ≤ Ho.length ∧ G = putBack (tau σ Hc.length) σ Hc Ho ∧ r = match r0 with | .ret v => .ret (rnV (tau σ Hc.length) v) | .pan v => .pan (rnV (tau σ Hc.length) v)) := by
  simp only [sigOk, Bool.and_eq_true] at hσ
  obtain ⟨s1, s2⟩ := hσ
  have s1 : ∀ j ∈ σ, j < Hc.length := fun j hj => Nat.le_of_ble_eq_true (List.all_eq_true.1 s1 j hj)
  refine ⟨h.enters, fun ext w β us hI hext hr => ?_⟩
  have hlen := hI.len
  let τ := tau σ Hc.length
  have hτ : ∀ (i j : Nat), σ[i]? = some j → τ i = j := fun i j hi => by show tau σ Hc.length i = j; simp [tau, hi]
  have hτn : ∀ (i : Nat), σ.length ≤ i → τ i = Hc.length + (i - σ.length) := fun i hi => by
    show tau σ Hc.length i = _
    simp [tau, List.getElem?_eq_none hi]
  let β' : List Ent := σ.map (fun j => β.getD j ⟨none, 0, 1, 0, 0⟩)
  have hβ' : ∀ (i j : Nat), σ[i]? = some j → β'[i]? = β[j]? := fun i j hi => by
    have hj : j < β.length := by rw [hlen]; exact s1 j (List.mem_of_getElem? hi)
    show (σ.map _)[i]? = _
    rw [List.getElem?_map, hi]
    simp [List.getD, hj]
  have hβl : β'.length = σ.length := by simp [β']
  let ext' : Nat → Prop := fun b => ext b ∨ ∃ (j : Nat) (e : Ent), β[j]? = some e ∧ e.blk = some b ∧ j ∉ σ
  have hcl : ∀ (i : Nat) (e : Ent), β'[i]? = some e → ∃ j, σ[i]? = some j ∧ β[j]? = some e := fun i e hi => by
    have hlt : i < σ.length := by rw [← hβl]; exact (List.getElem?_eq_some_iff.1 hi).1
    exact ⟨σ[i], List.getElem?_eq_getElem hlt, by rw [← hβ' i _ (List.getElem?_eq_getElem hlt)]; exact hi⟩
  have hblk : ∀ b, Blk β' b → ∃ (j : Nat) (e : Ent), β[j]? = some e ∧ e.blk = some b ∧ j ∈ σ := fun b ⟨i, e, hi, he⟩ => by
    obtain ⟨j, h1, h2⟩ := hcl i e hi
    exact ⟨j, e, h2, he, List.mem_of_getElem? h1⟩
  have hblk2 : ∀ (j : Nat) (e : Ent) (b : Nat), β[j]? = some e → e.blk = some b → j ∈ σ → Blk β' b := fun j e b h1 h2 h3 => by
    obtain ⟨i, hi, hij⟩ := List.getElem_of_mem h3
    have hi' : σ[i]? = some j := by rw [List.getElem?_eq_getElem hi, hij]
    exact ⟨i, e, by rw [hβ' i j hi']; exact h1, h2⟩
  have hbad : bad ext' β' = bad ext β := by
    funext b
    apply propext
    constructor
    · rintro ((h1 | ⟨j, e, h1, h2, _⟩) | h1)
      · exact .inl h1
      · exact .inr ⟨j, e, h1, h2⟩
      · obtain ⟨j, e, h2, h3, _⟩ := hblk b h1; exact .inr ⟨j, e, h2, h3⟩
    · rintro (h1 | ⟨j, e, h1, h2⟩)
      · exact .inl (.inl h1)
      · by_cases hj : j ∈ σ
        · exact .inr (hblk2 j e b h1 h2 hj)
        · exact .inl (.inr ⟨j, e, h1, h2, hj⟩)
  have hinto : Into (ctx ext w β) (ctx ext' w β') τ σ.length := ⟨rfl, hbad, fun i hi => by
    have := List.getElem?_eq_getElem hi
    rw [hτ i _ this]
    exact hβ' i _ this⟩
  have hI' : Inv ext' w H β' := by
    refine ⟨by rw [hβl, hl], fun j o e hj he => ?_, fun i j e g b hi hj he hg => ?_, fun b hb => ?_⟩
    · obtain ⟨k, h1, h2⟩ := hcl j e he
      have h3 := hH j k h1
      rw [hj] at h3
      exact rnO_into hinto (List.all_eq_true.1 ho o (List.mem_of_getElem? hj)) (hI.obj k _ e h3 h2)
    · obtain ⟨a, a1, a2⟩ := hcl i e hi
      obtain ⟨c, c1, c2⟩ := hcl j g hj
      have := hI.uniq a c e g b a2 c2 he hg
      subst this
      exact nodupB_inj s2 i j a a1 c1
    · obtain ⟨j, e, h1, h2, h3⟩ := hblk b hb
      obtain ⟨h4, h5⟩ := hI.sep b ⟨j, e, h1, h2⟩
      refine ⟨?_, h5⟩
      rintro (h6 | ⟨k, g, h6, h7, h8⟩)
      · exact h4 h6
      · have := hI.uniq j k e g b h1 h6 h2 h7
        subst this
        exact h8 h3
  have hext' : ∀ b, ext' b → b < w.heap.size := fun b hb => by
    rcases hb with h1 | ⟨j, e, h1, h2, _⟩
    · exact hext b h1
    · exact (hI.sep b ⟨j, e, h1, h2⟩).2
  have hcall := h.calls ext' w β' us hI' hext' (rnL_into hinto args us ha hr)
  refine hcall.mono fun e w' he => ?_
  -- the way back
  have back : ∀ {k : AVal → ARes} {u : Value}, (∀ v, (match k v with | .ret v => ARes.ret (rnV τ v) | .pan v => .pan (rnV τ v)) = k (rnV τ v)) → Came ext' w β' Q k u w' →
      Came ext w β (fun r G => ∃ r0 Ho, Q r0 Ho ∧ σ.length ≤ Ho.length ∧ G = putBack τ σ Hc Ho ∧ r = match r0 with | .ret v => .ret (rnV τ v) | .pan v => .pan (rnV τ v)) k u w' := by
    rintro k u hk ⟨v, Ho, β2, q1, q2, q3, q4⟩
    have h2len := q3.len
    have hle : σ.length ≤ β2.length := by
      rcases Nat.lt_or_ge β2.length σ.length with hlt | hge
      · exfalso
        have hb : β2.length < β'.length := by omega
        obtain ⟨e', he', _⟩ := q4.ents β2.length _ (List.getElem?_eq_getElem hb)
        simp at he'
      · exact hge
    let βc : List Ent := (List.range Hc.length).map (fun j => match idxOf σ j with | some i => β2.getD i ⟨none, 0, 1, 0, 0⟩ | none => β.getD j ⟨none, 0, 1, 0, 0⟩) ++ β2.drop σ.length
    have hin : ∀ (i j : Nat), σ[i]? = some j → βc[j]? = β2[i]? := fun i j hi => by
      have hj := s1 j (List.mem_of_getElem? hi)
      have hi2 : i < β2.length := Nat.lt_of_lt_of_le (List.getElem?_eq_some_iff.1 hi).1 hle
      show (_ ++ _)[j]? = _
      rw [List.getElem?_append_left (by simpa using hj), List.getElem?_map, List.getElem?_range hj]
      simp [idxOf_get s2 hi, List.getD, hi2]
    have hout : ∀ j, j < Hc.length → j ∉ σ → βc[j]? = β[j]? := fun j hj hn => by
      have hj2 : j < β.length := by omega
      show (_ ++ _)[j]? = _
      rw [List.getElem?_append_left (by simpa using hj), List.getElem?_map, List.getElem?_range hj]
      cases hx : idxOf σ j with
      | some i => exact absurd (List.mem_of_getElem? (idxOf_some hx)) hn
      | none => simp [hx, List.getD, hj2]
    have hnew : ∀ k, βc[Hc.length + k]? = β2[σ.length + k]? := fun k => by
      show (_ ++ _)[Hc.length + k]? = _
      rw [List.getElem?_append_right (by simp)]
      simp
    have hcll : βc.length = Hc.length + (β2.length - σ.length) := by simp [βc]
    have hcls : ∀ (j : Nat) (e : Ent), βc[j]? = some e → (∃ i, β2[i]? = some e ∧ τ i = j ∧ ((σ[i]? = some j) ∨ (σ.length ≤ i ∧ j = Hc.length + (i - σ.length)))) ∨ (j < Hc.length ∧ j ∉ σ ∧ β[j]? = some e) := fun j e hj => by
      rcases Nat.lt_or_ge j Hc.length with hlt | hge
      · cases hx : idxOf σ j with
        | some i =>
          have hi := idxOf_some hx
          exact .inl ⟨i, by rw [← hin i j hi]; exact hj, hτ i j hi, .inl hi⟩
        | none => exact .inr ⟨hlt, idxOf_none hx, by rw [← hout j hlt (idxOf_none hx)]; exact hj⟩
      · have h4 := hnew (j - Hc.length)
        rw [show Hc.length + (j - Hc.length) = j by omega] at h4
        rw [h4] at hj
        refine .inl ⟨σ.length + (j - Hc.length), hj, ?_, .inr ⟨by omega, by omega⟩⟩
        rw [hτn _ (by omega)]; omega
    have hblk3 : ∀ b, Blk βc b → Blk β2 b ∨ ∃ (j : Nat) (e : Ent), β[j]? = some e ∧ e.blk = some b ∧ j ∉ σ := fun b ⟨j, e, hj, he⟩ => by
      rcases hcls j e hj with ⟨i, h1, _⟩ | ⟨h1, h2, h3⟩
      · exact .inl ⟨i, e, h1, he⟩
      · exact .inr ⟨j, e, h3, he, h2⟩
    have hfwd : ∀ (i : Nat) (e : Ent), β2[i]? = some e → βc[τ i]? = some e := fun i e hi => by
      rcases Nat.lt_or_ge i σ.length with hlt | hge
      · have := List.getElem?_eq_getElem hlt
        rw [hτ i _ this, hin i _ this]; exact hi
      · rw [hτn i hge, hnew, show σ.length + (i - σ.length) = i by omega]; exact hi
    have hbad2 : bad ext βc = bad ext' β2 := by
      funext b
      apply propext
      constructor
      · rintro (h1 | h1)
        · exact .inl (.inl h1)
        · rcases hblk3 b h1 with h2 | h2
          · exact .inr h2
          · exact .inl (.inr h2)
      · rintro ((h1 | ⟨j, e, h1, h2, h3⟩) | ⟨i, e, h1, h2⟩)
        · exact .inl h1
        · have hj : j < Hc.length := by rw [← hlen]; exact (List.getElem?_eq_some_iff.1 h1).1
          exact .inr ⟨j, e, by rw [hout j hj h3]; exact h1, h2⟩
        · exact .inr ⟨τ i, e, hfwd i e h1, h2⟩
    have hoo : Outof (ctx ext' w' β2) (ctx ext w' βc) τ := ⟨rfl, hbad2, hfwd⟩
    have hstep : Step w β w' βc := by
      refine ⟨q4.os, q4.tape, q4.output, q4.size, fun b hb hn => ?_, fun b hb => ?_, fun j e hj => ?_⟩
      · exact q4.keep b hb fun h1 => by
          obtain ⟨j, e, h2, h3, _⟩ := hblk b h1
          exact hn ⟨j, e, h2, h3⟩
      · rcases hblk3 b hb with h1 | ⟨j, e, h1, h2, _⟩
        · rcases q4.fresh b h1 with h2 | h2
          · obtain ⟨j, e, h3, h4, _⟩ := hblk b h2; exact .inl ⟨j, e, h3, h4⟩
          · exact .inr h2
        · exact .inl ⟨j, e, h1, h2⟩
      · have hjlt : j < Hc.length := by rw [← hlen]; exact (List.getElem?_eq_some_iff.1 hj).1
        cases hx : idxOf σ j with
        | some i =>
          have hi := idxOf_some hx
          obtain ⟨e', h1, h2⟩ := q4.ents i e (by rw [hβ' i j hi]; exact hj)
          exact ⟨e', by rw [hin i j hi]; exact h1, h2⟩
        | none => exact ⟨e, by rw [hout j hjlt (idxOf_none hx)]; exact hj, Nat.le_refl _, fun _ => rfl, fun _ => rfl⟩
    obtain ⟨p1, p2, p3, p4⟩ := putBack_get (τ := τ) (σ := σ) (Hc := Hc) (Ho := Ho) s2 s1 (by omega)
    have hlec := hstep.le (ext := ext)
    refine ⟨rnV τ v, putBack τ σ Hc Ho, βc, ⟨k v, Ho, q1, by omega, rfl, (hk v).symm⟩, rnV_out hoo v u q2, ⟨by rw [hcll, p1]; omega, fun j o e hj he => ?_, fun i j e g b hi hj he hg => ?_, fun b hb => ?_⟩, hstep⟩
    · rcases hcls j e he with ⟨i, h1, h2, h3⟩ | ⟨h1, h2, h3⟩
      · have hi2 : i < Ho.length := by rw [← h2len]; exact (List.getElem?_eq_some_iff.1 h1).1
        have hoi := List.getElem?_eq_getElem hi2
        have : o = rnO τ Ho[i] := by
          rcases h3 with h3 | ⟨h3, h4⟩
          · have := p2 i j _ h3 hoi; rw [hj] at this; simpa using this
          · have := p4 (i - σ.length)
            rw [← h4, hj, show σ.length + (i - σ.length) = i by omega, hoi] at this
            simpa using this
        rw [this]
        exact rnO_out hoo (q3.obj i _ e hoi h1)
      · rw [p3 j h1 h2] at hj
        refine (hI.obj j o e hj h3).le hlec fun b hb => ?_
        refine q4.keep b (hI.sep b ⟨j, e, h3, hb⟩).2 fun h4 => ?_
        obtain ⟨m, g, g1, g2, g3⟩ := hblk b h4
        have := hI.uniq j m e g b h3 g1 hb g2
        subst this
        exact h2 g3
    · have cross : ∀ (i j : Nat) (e g : Ent), β2[i]? = some e → e.blk = some b → j ∉ σ → β[j]? = some g → g.blk = some b → False := fun i j e g h1 h2 h3 h4 h5 => by
        have := (q3.sep b ⟨i, e, h1, h2⟩).1
        exact this (.inr ⟨j, g, h4, h5, h3⟩)
      rcases hcls i e hi with ⟨a, a1, a2, _⟩ | ⟨a1, a2, a3⟩ <;> rcases hcls j g hj with ⟨c, c1, c2, _⟩ | ⟨c1, c2, c3⟩
      · have := q3.uniq a c e g b a1 c1 he hg
        subst this
        rw [← a2, ← c2]
      · exact (cross a j e g a1 he c2 c3 hg).elim
      · exact (cross c i g e c1 hg a2 a3 he).elim
      · exact hI.uniq i j e g b a3 c3 he hg
    · rcases hblk3 b hb with h1 | ⟨j, e, h1, h2, _⟩
      · have := q3.sep b h1
        exact ⟨fun hx => this.1 (.inl hx), this.2⟩
      · have := hI.sep b ⟨j, e, h1, h2⟩
        exact ⟨this.1, Nat.lt_of_lt_of_le this.2 q4.size⟩
  cases e with
  | returned u => exact back (k := .ret) (fun v => rfl) he
  | panicked ch => obtain ⟨u, h1, h2⟩ := he; exact ⟨u, h1, back (k := .pan) (fun v => rfl) h2⟩
  | outgrown => exact he

/-- the call of a function that is handed values alone -/
theorem call_val {dst : Option Tmp} {fo : Operand} {args : Array Operand} {argTypes : Array TypeId} {type : TypeId} {pos : String} {after : Array Edge} {guard : Option (Nat × Bool)} {F : Fr} {H : List AObj} {g : FuncId} {first vs cap : List AVal} {v : AVal}
    (hf : ev F fo = some (.fn (.func g) first cap)) (ha : evs F args.toList = some vs) (hc : ACalls P g (first ++ vs ++ cap) [] (one v [])) (hl : ltL 0 (first ++ vs ++ cap) = true) (hr : ∀ τ, rnL τ (first ++ vs ++ cap) = first ++ vs ++ cap) (hv : ∀ τ, rnV τ v = v) :
    DSem P .p ⟨dst, .call { callee := .value fo, args, argTypes }, type, pos, after, guard⟩ F H v H := by
  refine ⟨rfl, fun H' => call_sem hf ha ?_⟩
  have := hc.from (Hc := H') [] rfl rfl hl rfl (fun i j h => by simp at h)
  rw [hr] at this
  refine this.mono ?_
  rintro r G ⟨r0, Ho, ⟨rfl, rfl⟩, _, rfl, rfl⟩
  exact ⟨by show ARes.ret (rnV _ v) = _; rw [hv], by simp [putBack]⟩
end
end Go.AL
