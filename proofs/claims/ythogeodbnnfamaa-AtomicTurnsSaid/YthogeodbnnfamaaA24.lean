/-
  What is no longer wanted of the owned things is let go of. No conditions.
-/
import Derived.Test.YthogeodbnnfamaaA23
set_option linter.unusedVariables false
namespace Go.AL
open Go
section
variable {P : Program} {G : Gh} {Q : APost}
theorem zip_get {c : Ctx} {tmps : Array Value} : ∀ {ts : List Nat} {vs : List AVal} {us : List Value}, RelL c vs us → (∀ (i t : Nat), ts[i]? = some t → i < us.length → ∃ u, us[i]? = some u ∧ tmps[t]? = some u) →
    ∀ t v, fget (ts.zip vs) t = some v → ∃ u, tmps[t]? = some u ∧ Rel c v u
  | [], vs, us, _, _, t, v, h => by simp [fget] at h
  | s :: ts, [], us, _, _, t, v, h => by simp [fget] at h
  | s :: ts, x :: vs, us, hr, hg, t, v, h => by
    obtain ⟨u, us', rfl, r, rs⟩ := hr
    simp only [List.zip_cons_cons, fget] at h
    cases hb : Nat.beq s t with
    | true =>
      rw [hb] at h; simp at h; subst h
      rw [← Nat.eq_of_beq_eq_true hb]
      obtain ⟨u', h1, h2⟩ := hg 0 s rfl (by simp)
      simp at h1; subst h1
      exact ⟨u, h2, r⟩
    | false =>
      rw [hb] at h; simp at h
      exact zip_get rs (fun i t hi hl => by
        obtain ⟨u', h1, h2⟩ := hg (i + 1) t (by simpa using hi) (by simpa using hl)
        exact ⟨u', by simpa using h1, h2⟩) t v h

theorem fproj_vals {β : List Ent} {F : Fr} {H : List AObj} {a : Act} {w : World} (hs : StB G β F H a w) : ∀ {ts : List Nat} {vs : List AVal}, fproj F ts = some vs →
    ∃ us : List Value, RelL (ctx G.ext w β) vs us ∧ us.length = ts.length ∧ ∀ (i t : Nat), ts[i]? = some t → ∃ u, us[i]? = some u ∧ a.tmps[t]? = some u
  | [], vs, h => by simp [fproj] at h; subst h; exact ⟨[], rfl, rfl, fun i t hi => by simp at hi⟩
  | s :: ts, vs, h => by
    simp only [fproj] at h
    cases h1 : fget F s with
    | none => rw [h1] at h; cases h
    | some x =>
      cases h2 : fproj F ts with
      | none => rw [h1, h2] at h; cases h
      | some xs =>
        rw [h1, h2] at h; simp at h; subst h
        obtain ⟨us, r, hl, hg⟩ := fproj_vals hs h2
        obtain ⟨u, hu, hr⟩ := hs.get s x h1
        refine ⟨u :: us, ⟨u, us, rfl, hr, r⟩, by simp [hl], fun i t hi => ?_⟩
        cases i with
        | zero => simp at hi; subst hi; exact ⟨u, rfl, hu⟩
        | succ i =>
          obtain ⟨u', g1, g2⟩ := hg i t (by simpa using hi)
          exact ⟨u', by simpa using g1, g2⟩

theorem St.fin {F : Fr} {H H' : List AObj} {a : Act} {w : World} (hs : St G F H a w) (n : Nat) (ts : List Nat) {vs vs' : List AVal} {wk : Bool} (hp : fproj F ts = some vs) (hf : finish n [] wk H (.tup vs) = some (.tup vs', H')) (hn : n ≤ H.length) (hβ : G.β0.length ≤ n) :
    St G (ts.zip vs') H' a w := by
  obtain ⟨β, hs⟩ := hs
  obtain ⟨us, hr, hl, hg⟩ := fproj_vals hs hp
  have hr' : Rel (ctx G.ext w β) (.tup vs) (.tuple us.toArray) := ⟨us.toArray, rfl, hr⟩
  obtain ⟨v, H1, β', ⟨h1, h2⟩, h3, h4, h5⟩ := finish_came0 (k := .ret) hs.inv hs.step hβ (by rw [hs.inv.len]; exact hn) hr' rfl hf
  injection h1 with h1
  subst h1; subst h2
  obtain ⟨ua, hu, h3⟩ := h3
  injection hu with hu
  subst hu
  refine ⟨β', h4, h5, hs.extOk, hs.size, hs.defers, ?_⟩
  exact zip_get h3 fun i t hi _ => by simpa using hg i t hi

/-- what was made behind the first n is let go of, and what it was given up for stays -/
theorem aw_fin {c : Code} {F : Fr} {H H' : List AObj} (n : Nat) (ts : List Nat) {vs vs' : List AVal} (wk : Bool) (hp : fproj F ts = some vs) (hf : finish n [] wk H (.tup vs) = some (.tup vs', H')) (hn : Nat.ble n H.length = true) (hβ : G.β0.length ≤ n)
    (h : AW P G c Q (ts.zip vs') H') : AW P G c Q F H :=
  fun a w hs => h a w (hs.fin n ts hp hf (Nat.le_of_ble_eq_true hn) hβ)

/-- where a round ends: what it made is let go of -/
def Round {ι : Type} (n : Nat) (I : ι → Prop) (ts : List Nat) (V : ι → List AVal) (HH : ι → List AObj) (μ : ι → Nat) (i : ι) (F' : Fr) (H' : List AObj) : Prop :=
  ∃ i', I i' ∧ μ i' < μ i ∧ ∃ wk vs vs' H'', fproj F' ts = some vs ∧ finish n [] wk H' (.tup vs) = some (.tup vs', H'') ∧ Nat.ble n H'.length = true ∧ vs' = V i' ∧ H'' = HH i'

theorem aw_loopF {c : Code} {F : Fr} {H : List AObj} {ι : Type} (n : Nat) (I : ι → Prop) (ts : List Nat) (V : ι → List AVal) (HH : ι → List AObj) (μ : ι → Nat) (i0 : ι) (hβ : G.β0.length ≤ n) (hI : I i0) (h0 : fproj F ts = some (V i0)) (hH : H = HH i0)
    (round : ∀ i, I i → AW P G c (athen (fun F' H' => Round n I ts V HH μ i F' H') Q) (ts.zip (V i)) (HH i)) : AW P G (.loop c) Q F H := by
  intro a w ⟨β, hs⟩
  refine wp_loop_ghost (fun k a w => ∃ i, I i ∧ μ i = k ∧ St G (ts.zip (V i)) (HH i) a w) (μ i0) ⟨i0, hI, rfl, β, by subst hH; exact hs.proj h0⟩ ?_
  rintro k a w ⟨i, hi, hk, hst⟩
  refine wp_mono (round i hi a w hst) ?_
  intro e a' w' he
  cases e with
  | normal =>
    obtain ⟨F', H', ⟨i', h1, h2, wk, vs, vs', H'', h3, h4, h5, rfl, rfl⟩, hs'⟩ := he
    exact ⟨μ i', by omega, i', h1, rfl, hs'.fin n ts h3 h4 (Nat.le_of_ble_eq_true h5) hβ⟩
  | exit id => exact he
  | ret => exact he
  | panic ch => exact he
  | goto l => exact he.elim
  | outgrown => exact he.elim

/-- a loop whose heads' states are told by an index of which something is known -/
theorem aw_loopI {c : Code} {F : Fr} {H : List AObj} {ι : Type} (I : ι → Prop) (ts : List Nat) (V : ι → List AVal) (HH : ι → List AObj) (μ : ι → Nat) (i0 : ι) (hI : I i0) (h0 : fproj F ts = some (V i0)) (hH : H = HH i0)
    (round : ∀ i, I i → AW P G c (athen (fun F' H' => ∃ i', I i' ∧ fproj F' ts = some (V i') ∧ H' = HH i' ∧ μ i' < μ i) Q) (ts.zip (V i)) (HH i)) : AW P G (.loop c) Q F H := by
  refine aw_loop (ι := { i // I i }) ts (fun i => V i.1) (fun i => HH i.1) (fun i => μ i.1) ⟨i0, hI⟩ h0 hH fun i => (round i.1 i.2).mono fun e F H he => ?_
  cases e with
  | normal => obtain ⟨i', h1, h2, h3, h4⟩ := he; exact ⟨⟨i', h1⟩, h2, h3, h4⟩
  | _ => exact he

theorem finish0_arr {H : List AObj} {j g es : Nat} {t : TypeId} {xs : List AVal} {wk : Bool} (hj : H[j]? = some (.arr g t es xs)) : finish 0 [] wk H (.arr j g) = some (.sl xs, []) := by
  have h0 : kap 0 [] j = none := by cases j <;> rfl
  simp [finish, finV, h0, hj, picks, finOs]
end
end Go.AL
