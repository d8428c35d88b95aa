/-
  The first order in plain words: it is an order, none is ahead of it, and a span that is not needed can be taken away. No conditions.
-/
import Derived.Test.YthogeodbnnfamaaS38
set_option linter.unusedVariables false
set_option linter.unusedSimpArgs false
set_option maxRecDepth 100000
namespace Go.AL
open Go Go.Proofs
attribute [local irreducible] inB right may

theorem mapS_step {l : List Span} {m : List Pair} {pre rest : List Int} {n : Int} (h : (mapS l m pre (n :: rest)).2 = true) :
    ∃ k : Nat, n = k ∧ k < l.length ∧ freeB l pre k = true ∧ (nextS m (at' l (k : Int))).2 = true ∧ (mapS l (nextS m (at' l (k : Int))).1 (pre ++ [(k : Int)]) rest).2 = true := by
  rw [mapS_cons] at h
  split at h
  · rename_i hc
    obtain ⟨k, rfl⟩ : ∃ k : Nat, n = k := ⟨n.toNat, by omega⟩
    rw [Int.toNat_natCast] at hc
    split at h
    · rename_i h2
      exact ⟨k, rfl, by omega, hc.2.2, h2, h⟩
    · cases h
  · cases h
theorem mapS_of {l : List Span} {m : List Pair} {pre rest : List Int} {k : Nat} (hk : k < l.length) (hf : freeB l pre k = true) (hn : (nextS m (at' l (k : Int))).2 = true) :
    mapS l m pre ((k : Int) :: rest) = mapS l (nextS m (at' l (k : Int))).1 (pre ++ [(k : Int)]) rest := by
  rw [mapS_cons, if_pos ⟨by omega, by omega, by rw [Int.toNat_natCast]; exact hf⟩, if_pos hn]
theorem stepS_some {rec : List Pair → List Int → Option (List Int)} {l : List Span} {m : List Pair} {pre r : List Int} {j : Nat} (h : stepS rec l m pre j = some r) :
    freeB l pre j = true ∧ (nextS m (at' l (j : Int))).2 = true ∧ rec (nextS m (at' l (j : Int))).1 (pre ++ [(j : Int)]) = some r := by
  unfold stepS at h
  split at h
  · rename_i h1
    split at h
    · rename_i h2; exact ⟨h1, h2, h⟩
    · cases h
  · cases h
theorem search_sound (l : List Span) : ∀ (f : Nat) (m : List Pair) (pre r : List Int), searchS l f m pre = some r → ∃ s, r = pre ++ s ∧ (mapS l m pre s).2 = true ∧ ∀ x ∈ s, ∃ k : Nat, k < l.length ∧ x = k
  | 0, _, _, _, h => by cases h
  | f + 1, m, pre, r, h => by
    unfold searchS at h
    split at h
    · rename_i hw
      injection h with h; subst h
      exact ⟨[], by simp, hw, by simp⟩
    · obtain ⟨j, hj, hr⟩ := List.exists_of_findSome?_eq_some h
      obtain ⟨h1, h2, h3⟩ := stepS_some hr
      have hj := List.mem_range.1 hj
      obtain ⟨s, e, hs, hx⟩ := search_sound l f _ _ _ h3
      refine ⟨(j : Int) :: s, by rw [e]; simp, by rw [mapS_of hj h1 h2]; exact hs, fun x hx' => ?_⟩
      rcases List.mem_cons.1 hx' with rfl | hx'
      · exact ⟨j, hj, rfl⟩
      · exact hx x hx'
def lexOK : List Int → List Int → Bool
  | [], _ => true
  | _ :: _, [] => false
  | n :: s, k :: row => if k < n then false else if k > n then true else lexOK s row
theorem free_notin {l : List Span} {pre : List Int} {k : Nat} (h : freeB l pre k = true) : (k : Int) ∉ pre := by
  unfold freeB at h
  simp only [Bool.and_eq_true, Bool.not_eq_true', List.contains_eq_mem, decide_eq_false_iff_not] at h
  exact h.2
theorem range_first {n : Nat} {p : Nat → Option (List Int)} {k : Nat} (hk : k < n) {r : List Int} (hp : p k = some r) : ∃ j r', j ≤ k ∧ p j = some r' ∧ (List.range n).findSome? p = some r' := by
  cases hf : (List.range n).findSome? p with
  | none =>
    rw [List.findSome?_eq_none_iff] at hf
    have := hf k (List.mem_range.2 hk)
    rw [hp] at this; cases this
  | some r' =>
    by_cases hall : ∀ i, i < k → p i = none
    · rw [find_some hall hk hp] at hf
      injection hf with hf; subst hf
      exact ⟨k, r, Nat.le_refl _, hp, rfl⟩
    · have : ∃ j, j < k ∧ (∀ i, i < j → p i = none) ∧ p j ≠ none := by
        have key : ∀ q, (∀ i, i < q → p i = none) ∨ ∃ j, j < q ∧ (∀ i, i < j → p i = none) ∧ p j ≠ none := by
          intro q
          induction q with
          | zero => exact .inl fun i hi => by omega
          | succ q ih =>
            rcases ih with ih | ⟨j, h1, h2, h3⟩
            · by_cases hq : p q = none
              · exact .inl (upto_succ ih hq)
              · exact .inr ⟨q, by omega, ih, hq⟩
            · exact .inr ⟨j, by omega, h2, h3⟩
        rcases key k with h | h
        · exact absurd h hall
        · exact h
      obtain ⟨j, h1, h2, h3⟩ := this
      obtain ⟨rj, hrj⟩ := Option.ne_none_iff_exists'.1 h3
      rw [find_some h2 (by omega) hrj] at hf
      injection hf with hf; subst hf
      exact ⟨j, rj, by omega, hrj, rfl⟩
theorem search_min (l : List Span) : ∀ (f : Nat) (m : List Pair) (pre row : List Int), f + pre.length = l.length + 1 → pre.Nodup → (∀ x ∈ pre, ∃ k : Nat, k < l.length ∧ x = k) → (mapS l m pre row).2 = true →
    ∃ s, searchS l f m pre = some (pre ++ s) ∧ lexOK s row = true
  | 0, m, pre, row, hf, hn, hx, _ => by
    have := len_le hn hx
    omega
  | f + 1, m, pre, row, hf, hn, hx, hr => by
    unfold searchS
    cases hw : wholeB l pre
    · rw [if_neg (by simp)]
      cases row with
      | nil => rw [show (mapS l m pre []).2 = wholeB l pre from rfl, hw] at hr; cases hr
      | cons n rest =>
        obtain ⟨k, rfl, hk, hfr, hnx, hrest⟩ := mapS_step hr
        have hni := free_notin hfr
        obtain ⟨s, hs, hlex⟩ := search_min l f _ (pre ++ [(k : Int)]) rest (by simp; omega) (by
          rw [List.nodup_append]
          exact ⟨hn, by simp, fun a ha b hb' => by simp at hb'; subst hb'; intro e; subst e; exact hni ha⟩) (fun y hy => by
            rcases List.mem_append.1 hy with hy | hy
            · exact hx y hy
            · exact ⟨k, hk, by simpa using hy⟩) hrest
        have hst : stepS (searchS l f) l m pre k = some (pre ++ [(k : Int)] ++ s) := by unfold stepS; rw [if_pos hfr, if_pos hnx]; exact hs
        obtain ⟨j, r', hj, hpj, hfind⟩ := range_first hk hst
        rw [hfind]
        by_cases hjk : j = k
        · subst hjk
          rw [hst] at hpj
          injection hpj with hpj; subst hpj
          refine ⟨(j : Int) :: s, by simp, ?_⟩
          show (if (j : Int) < j then false else if (j : Int) > j then true else lexOK s rest) = true
          rw [if_neg (by omega), if_neg (by omega)]; exact hlex
        · obtain ⟨g1, g2, g3⟩ := stepS_some hpj
          obtain ⟨s', e, _, _⟩ := search_sound l f _ _ _ g3
          refine ⟨(j : Int) :: s', by rw [e]; simp, ?_⟩
          show (if (k : Int) < j then false else if (k : Int) > j then true else lexOK s' rest) = true
          rw [if_neg (by omega), if_pos (by omega)]
    · exact ⟨[], by simp, rfl⟩

/-! ### a span taken away -/
def sig (i : Nat) (k : Int) : Int := if k < i then k else k - 1
theorem erase_at {l : List Span} {i k : Nat} (hi : i < l.length) (hk : k + 1 < l.length) : at' (l.eraseIdx i) (k : Int) = at' l ((if k < i then k else k + 1 : Nat) : Int) := by
  have hl : (l.eraseIdx i).length = l.length - 1 := by rw [List.length_eraseIdx, if_pos hi]
  rw [at_nat _ k (by omega), List.getElem_eraseIdx]
  split
  · rw [at_nat l k (by omega)]
  · rw [at_nat l (k + 1) (by omega)]
theorem sig_contains {i : Nat} {pre : List Int} (hi : (i : Int) ∉ pre) (k : Nat) : (pre.map (sig i)).contains (k : Int) = pre.contains ((if k < i then k else k + 1 : Nat) : Int) := by
  rw [Bool.eq_iff_iff]
  simp only [List.contains_eq_mem, decide_eq_true_eq, List.mem_map]
  constructor
  · rintro ⟨x, hx, e⟩
    have hxi : x ≠ i := fun e => hi (e ▸ hx)
    unfold sig at e
    have : x = ((if k < i then k else k + 1 : Nat) : Int) := by
      split at e <;> split <;> omega
    rw [← this]; exact hx
  · intro hx
    refine ⟨_, hx, ?_⟩
    unfold sig
    by_cases h : k < i
    · rw [if_pos h, if_pos (by omega)]
    · rw [if_neg h, if_neg (by omega)]; omega
theorem erase_whole {l : List Span} {i : Nat} (hi : i < l.length) {pre : List Int} (hp : (i : Int) ∉ pre) (h : wholeB l pre = true) : wholeB (l.eraseIdx i) (pre.map (sig i)) = true := by
  have hl : (l.eraseIdx i).length = l.length - 1 := by rw [List.length_eraseIdx, if_pos hi]
  unfold wholeB at h ⊢
  rw [allN_iff] at h ⊢
  intro k hk
  have := h (if k < i then k else k + 1) (by split <;> omega)
  unfold wholeP at this ⊢
  rw [erase_at hi (by omega), sig_contains hp]
  exact this
theorem erase_free {l : List Span} {i : Nat} (hi : i < l.length) {pre : List Int} (hp : (i : Int) ∉ pre) {n : Nat} (hn : n < l.length) (hni : n ≠ i) (h : freeB l pre n = true) : freeB (l.eraseIdx i) (pre.map (sig i)) (if n < i then n else n - 1) = true := by
  have hl : (l.eraseIdx i).length = l.length - 1 := by rw [List.length_eraseIdx, if_pos hi]
  have hback : (if (if n < i then n else n - 1) < i then (if n < i then n else n - 1) else (if n < i then n else n - 1) + 1) = n := by
    repeat' split
    all_goals omega
  unfold freeB at h ⊢
  simp only [Bool.and_eq_true, allN_iff] at h ⊢
  constructor
  · intro k hk
    have := h.1 (if k < i then k else k + 1) (by split <;> omega)
    unfold freeP at this ⊢
    rw [erase_at hi (by omega), sig_contains hp, erase_at hi (by split <;> omega), hback]
    have e : (((if k < i then k else k + 1 : Nat) : Int) ≠ (n : Int)) ↔ ((k : Int) ≠ ((if n < i then n else n - 1 : Nat) : Int)) := by
      split <;> split <;> omega
    simp only [e] at this
    exact this
  · rw [sig_contains hp, hback]
    exact h.2
theorem erase_map {l : List Span} {i : Nat} (hi : i < l.length) : ∀ (s : List Int) (m : List Pair) (pre : List Int), (i : Int) ∉ pre → (i : Int) ∉ s → (mapS l m pre s).2 = true → (mapS (l.eraseIdx i) m (pre.map (sig i)) (s.map (sig i))).2 = true
  | [], m, pre, hp, _, h => erase_whole hi hp h
  | n :: s, m, pre, hp, hs, h => by
    have hl : (l.eraseIdx i).length = l.length - 1 := by rw [List.length_eraseIdx, if_pos hi]
    obtain ⟨k, rfl, hk, hf, hn, hr⟩ := mapS_step h
    have hki : k ≠ i := fun e => hs (by subst e; exact List.mem_cons_self ..)
    have ih := erase_map hi s _ (pre ++ [(k : Int)]) (by
      intro hmem
      rcases List.mem_append.1 hmem with h1 | h1
      · exact hp h1
      · simp at h1; omega) (fun h => hs (List.mem_cons_of_mem _ h)) hr
    have hback : (if (if k < i then k else k - 1) < i then (if k < i then k else k - 1) else (if k < i then k else k - 1) + 1) = k := by
      repeat' split
      all_goals omega
    have hat : at' (l.eraseIdx i) ((if k < i then k else k - 1 : Nat) : Int) = at' l (k : Int) := by rw [erase_at hi (by split <;> omega), hback]
    have hsig : sig i (k : Int) = ((if k < i then k else k - 1 : Nat) : Int) := by unfold sig; split <;> split <;> omega
    rw [List.map_cons, hsig, mapS_of (by rw [hl]; split <;> omega) (erase_free hi hp hk hki hf) (by rw [hat]; exact hn), hat]
    rw [List.map_append, List.map_cons, List.map_nil, hsig] at ih
    exact ih

/-- what the law asks -/
theorem first_sound {m : List Pair} {l : List Span} {r : List Int} (h : orderR m l = some r) : (mapS l m [] r).2 = true ∧ (∀ x ∈ r, ∃ k : Nat, k < l.length ∧ x = k) ∧ r.length ≤ l.length + 1 := by
  obtain ⟨s, e, h1, h2⟩ := search_sound l _ m [] r h
  simp at e; subst e
  exact ⟨h1, h2, by have := search_len l _ m [] r h; simpa using this⟩
theorem first_min {m : List Pair} {l : List Span} {row : List Int} (h : (mapS l m [] row).2 = true) : ∃ r, orderR m l = some r ∧ lexOK r row = true := by
  obtain ⟨s, h1, h2⟩ := search_min l (l.length + 1) m [] row rfl (by simp) (by simp) h
  rw [List.nil_append] at h1
  exact ⟨s, h1, h2⟩
theorem first_erase {m : List Pair} {l : List Span} {r : List Int} {i : Nat} (hi : i < l.length) (h : orderR m l = some r) (hr : (i : Int) ∉ r) : ∃ r', orderR m (l.eraseIdx i) = some r' := by
  have h1 := (first_sound h).1
  have h2 := erase_map hi r m [] (by simp) hr h1
  obtain ⟨r', h3, _⟩ := first_min h2
  exact ⟨r', h3⟩
end Go.AL
