/-
  Maps in plain words: what is found in them behind a call. No conditions.
-/
import Derived.Test.YthogeodbnnfamaaS13
set_option linter.unusedVariables false
set_option linter.unusedSimpArgs false
namespace Go.AL
open Go Go.Proofs

abbrev PW (m : List Pair) : Prop := m.Pairwise (fun a b => a.key < b.key)
theorem sorted_iff {m : List Pair} : Sorted m ↔ PW m := by
  unfold PW
  rw [List.pairwise_iff_getElem]
  constructor
  · intro h i j hi hj hij
    have := h i j hij hj
    rwa [at_nat m i hi, at_nat m j hj] at this
  · intro h i j hij hj
    rw [at_nat m i (by omega), at_nat m j hj]
    exact h i j (by omega) hj hij
theorem rises_of {m : List Pair} (h : Sorted m) : ∀ (d i : Nat), 1 ≤ i → risesFrom m d i = true
  | 0, _, _ => rfl
  | d + 1, i, hi => by
    unfold risesFrom
    split
    · rename_i a b ha hb
      obtain ⟨h1, rfl⟩ := List.getElem?_eq_some_iff.1 ha
      obtain ⟨h2, rfl⟩ := List.getElem?_eq_some_iff.1 hb
      have := h (i - 1) i (by omega) h2
      rw [at_nat m _ h1, at_nat m _ h2] at this
      rw [if_neg (by omega)]
      exact rises_of h d (i + 1) (by omega)
    · rfl
theorem right_iff {m : List Pair} : right m = true ↔ PW m ∧ m.length ≤ 12 := by
  rw [← sorted_iff]
  constructor
  · exact right_sorted
  · rintro ⟨h1, h2⟩
    unfold right
    rw [rises_of h1 _ _ (Nat.le_refl _)]
    simpa using h2
theorem wo_pw {m : List Pair} (h : PW m) (k : Int) : PW (wo m k) := h.filter _
theorem wo_mem {m : List Pair} {k : Int} {q : Pair} : q ∈ wo m k ↔ q ∈ m ∧ q.key ≠ k := by simp [wo]
theorem wiL_mem {k v : Int} {q : Pair} : ∀ {m : List Pair}, q ∈ wiL k v m ↔ q = ⟨k, v⟩ ∨ q ∈ m
  | [] => by simp [wiL]
  | p :: m => by
    unfold wiL
    split
    · simp
    · rw [List.mem_cons, wiL_mem, List.mem_cons]; grind
theorem wiL_pw {k v : Int} : ∀ {m : List Pair}, PW m → (∀ q ∈ m, q.key ≠ k) → PW (wiL k v m)
  | [], _, _ => by simp [wiL]
  | p :: m, h, hk => by
    have h := List.pairwise_cons.1 h
    have hp := hk p (List.mem_cons_self ..)
    unfold wiL
    split
    · rename_i hg
      refine List.pairwise_cons.2 ⟨fun q hq => ?_, List.pairwise_cons.2 h⟩
      rcases List.mem_cons.1 hq with rfl | hq
      · exact hg
      · have := h.1 q hq; show k < q.key; omega
    · rename_i hg
      refine List.pairwise_cons.2 ⟨fun q hq => ?_, wiL_pw h.2 fun q hq => hk q (List.mem_cons_of_mem _ hq)⟩
      rcases wiL_mem.1 hq with rfl | hq
      · show p.key < k; omega
      · exact h.1 q hq
theorem wi_pw {m : List Pair} (h : PW m) (k v : Int) : PW (wi m k v) := wiL_pw (wo_pw h k) fun q hq => (wo_mem.1 hq).2
theorem wiL_len (k v : Int) : ∀ m : List Pair, (wiL k v m).length = m.length + 1
  | [] => rfl
  | p :: m => by unfold wiL; split <;> simp [wiL_len k v m]
theorem wi_len (m : List Pair) (k v : Int) : (wi m k v).length ≤ m.length + 1 := by
  unfold wi
  rw [wiL_len]
  have := wo_len m k
  omega
theorem val_cons (p : Pair) (m : List Pair) (k : Int) : valR (p :: m) k = if p.key = k then (p.value, true) else valR m k := rfl
theorem val_none {k : Int} : ∀ {m : List Pair}, (∀ q ∈ m, q.key ≠ k) → valR m k = (0, false)
  | [], _ => rfl
  | p :: m, h => by
    rw [val_cons, if_neg (h p (List.mem_cons_self ..))]
    exact val_none fun q hq => h q (List.mem_cons_of_mem _ hq)
theorem val_wo (m : List Pair) (k k' : Int) : valR (wo m k) k' = if k' = k then (0, false) else valR m k' := by
  induction m with
  | nil => simp [wo, valR]
  | cons p m ih =>
    rw [wo_cons, val_cons]
    grind [val_cons]
theorem val_wiL {k v : Int} (k' : Int) : ∀ {m : List Pair}, (∀ q ∈ m, q.key ≠ k) → valR (wiL k v m) k' = if k' = k then (v, true) else valR m k'
  | [], _ => by simp [wiL, val_cons, valR]; grind
  | p :: m, h => by
    have hp := h p (List.mem_cons_self ..)
    have ih := val_wiL (k := k) (v := v) k' (m := m) fun q hq => h q (List.mem_cons_of_mem _ hq)
    unfold wiL
    split
    · rw [val_cons]; simp only [val_cons]; grind
    · rw [val_cons, ih, val_cons]; grind
theorem val_wi (m : List Pair) (k v k' : Int) : valR (wi m k v) k' = if k' = k then (v, true) else valR m k' := by
  unfold wi
  rw [val_wiL k' fun q hq => (wo_mem.1 hq).2, val_wo]
  grind
theorem val_mem {m : List Pair} (h : PW m) {q : Pair} (hq : q ∈ m) : valR m q.key = (q.value, true) := by
  induction m with
  | nil => cases hq
  | cons p m ih =>
    have h := List.pairwise_cons.1 h
    rw [val_cons]
    rcases List.mem_cons.1 hq with rfl | hq
    · simp
    · have := h.1 q hq
      rw [if_neg (by omega)]; exact ih h.2 hq
/-- maps in which the same is found are the same -/
theorem map_ext : ∀ {m n : List Pair}, PW m → PW n → (∀ k, valR m k = valR n k) → m = n
  | [], [], _, _, _ => rfl
  | [], q :: n, _, _, h => by have := h q.key; rw [val_cons] at this; simp [valR] at this
  | p :: m, [], _, _, h => by have := h p.key; rw [val_cons] at this; simp [valR] at this
  | p :: m, q :: n, hm, hn, h => by
    have hm := List.pairwise_cons.1 hm
    have hn := List.pairwise_cons.1 hn
    have hk : p.key = q.key := by
      rcases Int.lt_trichotomy p.key q.key with hl | hl | hl
      · have h1 := h p.key
        rw [val_cons, if_pos rfl, val_none fun r hr => by
          rcases List.mem_cons.1 hr with rfl | hr
          · omega
          · have := hn.1 r hr; omega] at h1
        simp at h1
      · exact hl
      · have h1 := h q.key
        rw [val_none (m := p :: m) fun r hr => by
          rcases List.mem_cons.1 hr with rfl | hr
          · omega
          · have := hm.1 r hr; omega, val_cons, if_pos rfl] at h1
        simp at h1
    have hv : p.value = q.value := by
      have h1 := h p.key
      rw [val_cons, val_cons, if_pos rfl, if_pos hk.symm] at h1
      simpa using h1
    have hpq : p = q := by cases p; cases q; simp_all
    subst hpq
    rw [map_ext hm.2 hn.2 fun k => by
      have h1 := h k
      rw [val_cons, val_cons] at h1
      by_cases hkk : p.key = k
      · subst hkk
        rw [val_none fun r hr => by have := hm.1 r hr; omega, val_none fun r hr => by have := hn.1 r hr; omega]
      · rw [if_neg hkk, if_neg hkk] at h1; exact h1]

/-- a call that may be leaves a map -/
theorem rdo_right {m : List Pair} (h : right m = true) (c : Call) : right (rdoS m c).1 = true := by
  have ⟨h1, h2⟩ := right_iff.1 h
  have hw : right (wo m c.key) = true := right_iff.2 ⟨wo_pw h1 _, Nat.le_trans (wo_len _ _) h2⟩
  have hp : right (rputS m c.key c.value).1 = true := by
    unfold rputS
    split
    · exact h
    · exact right_iff.2 ⟨wi_pw h1 _ _, by dsimp only; omega⟩
  unfold rdoS rdoB
  repeat' split
  all_goals assumption
theorem do_right {m : List Pair} (h : right m = true) {c : Call} (hc : may c = true) : right (doS m c).1 = true := by
  rw [do_eq h hc]; exact rdo_right h c
theorem right_len {m : List Pair} (h : right m = true) : m.length ≤ 12 := (right_iff.1 h).2
end Go.AL
