/-
  The plain law: what a call does to a right map is as the reference says. No conditions.
-/
import Derived.Test.YthogeodbnnfamaaS10
set_option linter.unusedVariables false
set_option linter.unusedSimpArgs false
namespace Go.AL
open Go Go.Proofs

theorem sorted_tail {p : Pair} {m : List Pair} (h : Sorted (p :: m)) : Sorted m := fun i j hij hj => by
  have := h (i + 1) (j + 1) (by omega) (by simpa using hj)
  rwa [at_cons, at_cons] at this
theorem sorted_head {p : Pair} {m : List Pair} (h : Sorted (p :: m)) : ∀ q ∈ m, p.key < q.key := fun q hq => by
  obtain ⟨i, hi, rfl⟩ := List.getElem_of_mem hq
  have := h 0 (i + 1) (by omega) (by simpa using hi)
  rw [at_cons, at_nat m i hi] at this
  simpa [at'] using this
theorem has_cons {p : Pair} {m : List Pair} {k : Int} : has (p :: m) k = if p.key < k then has m k else decide (p.key = k) := by
  have hp : place (p :: m) k = if p.key < k then place m k + 1 else 0 := rfl
  unfold has
  rw [hp]
  by_cases h : p.key < k
  · rw [if_pos h, if_pos h, at_cons]; simp
  · rw [if_neg h, if_neg h]; simp [at']
theorem has_mem {m : List Pair} (hs : Sorted m) {k : Int} : has m k = false → ∀ q ∈ m, q.key ≠ k := by
  induction m with
  | nil => intro _ q hq; simp at hq
  | cons p m ih =>
    intro h q hq
    rw [has_cons] at h
    have hh := sorted_head hs
    by_cases hp : p.key < k
    · rw [if_pos hp] at h
      rcases List.mem_cons.1 hq with rfl | hq
      · omega
      · exact ih (sorted_tail hs) h q hq
    · rw [if_neg hp] at h
      have : p.key ≠ k := by simpa using h
      rcases List.mem_cons.1 hq with rfl | hq
      · exact this
      · have := hh q hq; omega
theorem val_eq {m : List Pair} (hs : Sorted m) (k : Int) : valR m k = if has m k then ((at' m (place m k : Int)).value, true) else (0, false) := by
  induction m with
  | nil => rfl
  | cons p m ih =>
    have hpl : place (p :: m) k = if p.key < k then place m k + 1 else 0 := rfl
    have hv : valR (p :: m) k = if p.key = k then (p.value, true) else valR m k := rfl
    rw [has_cons, hpl, hv]
    by_cases hp : p.key < k
    · rw [if_neg (by omega), if_pos hp, if_pos hp, at_cons]; exact ih (sorted_tail hs)
    · rw [if_neg hp, if_neg hp]
      by_cases h2 : p.key = k
      · simp [h2, at']
      · simp only [h2, if_false, decide_false, Bool.false_eq_true]
        rw [ih (sorted_tail hs)]
        have : has m k = false := by
          cases hb : has m k with
          | false => rfl
          | true =>
            have h3 := has_key hb
            have h4 := has_lt hb
            rw [at_nat m _ h4] at h3
            have := sorted_head hs _ (List.getElem_mem h4)
            omega
        rw [this]; rfl
theorem wo_absent {m : List Pair} (hs : Sorted m) {k : Int} (h : has m k = false) : wo m k = m := by
  unfold wo
  exact List.filter_eq_self.2 fun q hq => by simpa using has_mem hs h q hq
theorem wo_cons (p : Pair) (m : List Pair) (k : Int) : wo (p :: m) k = if p.key = k then wo m k else p :: wo m k := by
  unfold wo
  by_cases h : p.key = k <;> simp [h]
theorem wo_above {m : List Pair} {k : Int} (h : ∀ q ∈ m, k < q.key) : wo m k = m := by
  unfold wo
  exact List.filter_eq_self.2 fun q hq => by have := h q hq; simp; omega
theorem place_cons (p : Pair) (m : List Pair) (k : Int) : place (p :: m) k = if p.key < k then place m k + 1 else 0 := rfl
theorem wo_present {m : List Pair} (hs : Sorted m) {k : Int} (h : has m k = true) : wo m k = delP m (place m k) := by
  induction m with
  | nil => cases h
  | cons p m ih =>
    rw [has_cons] at h
    rw [wo_cons, place_cons]
    by_cases hp : p.key < k
    · rw [if_pos hp] at h ⊢
      rw [if_neg (by omega), ih (sorted_tail hs) h]
      simp [delP]
    · rw [if_neg hp] at h ⊢
      have h : p.key = k := by simpa using h
      rw [if_pos h, wo_above fun q hq => by have := sorted_head hs q hq; omega]
      simp [delP]
theorem wiL_above {m : List Pair} {k : Int} (v : Int) (h : ∀ q ∈ m, k < q.key) : wiL k v m = ⟨k, v⟩ :: m := by
  cases m with
  | nil => rfl
  | cons q m =>
    unfold wiL
    rw [if_pos (h q (List.mem_cons_self ..))]
theorem wi_present {m : List Pair} (hs : Sorted m) {k : Int} (v : Int) (h : has m k = true) : wi m k v = m.set (place m k) ⟨k, v⟩ := by
  unfold wi
  induction m with
  | nil => cases h
  | cons p m ih =>
    rw [has_cons] at h
    rw [wo_cons, place_cons]
    by_cases hp : p.key < k
    · rw [if_pos hp] at h ⊢
      rw [if_neg (by omega)]
      unfold wiL
      rw [if_neg (by omega), ih (sorted_tail hs) h]
      simp
    · rw [if_neg hp] at h ⊢
      have h : p.key = k := by simpa using h
      have hab : ∀ q ∈ m, k < q.key := fun q hq => by have := sorted_head hs q hq; omega
      rw [if_pos h, wo_above hab, wiL_above v hab]
      simp
theorem wi_absent {m : List Pair} (hs : Sorted m) {k : Int} (v : Int) (h : has m k = false) : wi m k v = insP m (place m k) ⟨k, v⟩ := by
  unfold wi
  rw [wo_absent hs h]
  induction m with
  | nil => rfl
  | cons p m ih =>
    have hne := has_mem hs h p (List.mem_cons_self ..)
    rw [has_cons] at h
    rw [place_cons]
    by_cases hp : p.key < k
    · rw [if_pos hp] at h ⊢
      unfold wiL
      rw [if_neg (by omega), ih (sorted_tail hs) h]
      simp [insP]
    · rw [if_neg hp]
      have hab : ∀ q ∈ p :: m, k < q.key := fun q hq => by
        rcases List.mem_cons.1 hq with rfl | hq
        · omega
        · have := sorted_head hs q hq; omega
      rw [wiL_above v hab]
      simp [insP]
theorem put_eq {m : List Pair} (hs : Sorted m) (hl : m.length ≤ 12) (c : Call) : rputS m c.key c.value = putS m c := by
  unfold rputS putS
  cases h : has m c.key
  · rw [wi_absent hs c.value h]
    have hle := place_le m c.key
    have hlen : (insP m (place m c.key) ⟨c.key, c.value⟩).length = m.length + 1 := by simp [insP]; omega
    rw [hlen]
    simp only [Bool.false_eq_true, if_false]
    by_cases h2 : m.length = 12
    · rw [if_pos (by omega), if_pos h2]
    · rw [if_neg (by omega), if_neg h2]
  · rw [wi_present hs c.value h, List.length_set, if_neg (by omega)]
    simp
theorem do_eq {m : List Pair} {c : Call} (hr : right m = true) (hc : may c = true) : doS m c = rdoS m c := by
  obtain ⟨hs, hl⟩ := right_sorted hr
  obtain ⟨h0, h7⟩ := may_kind hc
  unfold rdoS rdoB doS
  rw [val_eq hs, put_eq hs hl]
  unfold getS absentS casS delS
  cases hb : has m c.key
  · rw [wo_absent hs hb]
    simp
    grind
  · rw [wo_present hs hb]
    simp
    grind
theorem put_len (m : List Pair) (c : Call) : (putS m c).1.length ≤ m.length + 1 := by
  have := place_le m c.key
  unfold putS
  split
  · simp
  · split
    · simp
    · simp [insP]; omega
theorem do_len (m : List Pair) (c : Call) : (doS m c).1.length ≤ m.length + 1 := by
  have h1 := put_len m c
  have h2 : (delP m (place m c.key)).length ≤ m.length + 1 := by simp [delP]; omega
  unfold doS absentS casS delS
  repeat' split
  all_goals first | exact h1 | exact h2 | (dsimp only; omega) | omega
theorem atomicDoes (M : List Pair) (c : Call) (hM : M.length ≤ 9223372036854775807) : ACalls Try.prog 3 [.sl (M.map encP), encC c] [] (one (.v (.bool true)) []) :=
  doesA_ok M c hM (fun h1 h2 => do_eq h1 h2) (Nat.le_trans (do_len _ _) (by rw [List.length_take]; omega))
end Go.AL
