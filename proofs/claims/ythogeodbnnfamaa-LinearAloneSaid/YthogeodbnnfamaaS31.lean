/-
  Rows of spans, as the reference has them. No conditions.
-/
import Derived.Test.YthogeodbnnfamaaS30
set_option linter.unusedVariables false
set_option linter.unusedSimpArgs false
set_option maxRecDepth 100000
namespace Go.AL
open Go Go.Proofs
attribute [local irreducible] J inB right may

def allN (n : Nat) (p : Nat → Bool) : Bool := (List.range n).all p
theorem allN_true {n : Nat} {p : Nat → Bool} (h : ∀ j, j < n → p j = true) : allN n p = true := by
  simp only [allN, List.all_eq_true, List.mem_range]; exact h
theorem allN_false {n : Nat} {p : Nat → Bool} {j : Nat} (h : j < n) (hp : p j = false) : allN n p = false := by
  simp only [allN, List.all_eq_false, List.mem_range]; exact ⟨j, h, by simp [hp]⟩
theorem allN_iff {n : Nat} {p : Nat → Bool} : allN n p = true ↔ ∀ j, j < n → p j = true := by
  simp only [allN, List.all_eq_true, List.mem_range]
theorem upto_succ {p : Nat → Prop} {i : Nat} (h : ∀ j, j < i → p j) (hi : p i) : ∀ j, j < i + 1 → p j := fun j hj => by
  rcases Nat.lt_or_ge j i with h4 | h4
  · exact h j h4
  · have : j = i := by omega
    subst this; exact hi

def wholeP (l : List Span) (row : List Int) (k : Nat) : Bool := !(decide ((at' l (k : Int)).to ≥ 0) && !row.contains (k : Int))
def wholeB (l : List Span) (row : List Int) : Bool := allN l.length (wholeP l row)
theorem whole_ok (l : List Span) (row : List Int) (hl : l.length ≤ 1000000) (hr : row.length ≤ 1000000) : ACalls Try.prog 50 [.sl (l.map encSp), .sl (row.map encI)] [] (one (.v (.bool (wholeB l row))) []) := by
  refine jcalls Try.func50 rfl (by kernel_rfl) Try.ntmps50 rfl rfl (fun w0 β0 ext hβ => ?_)
  repeat (first | refine js rfl ?_ | (refine jdraw ?_ ?_; · kernel_rfl) | refine jbu rfl rfl rfl rfl ?_)
  refine jloop (ι := Nat) 0 (fun i => i ≤ l.length ∧ ∀ j, j < i → wholeP l row j = true) [1, 7, 8, 9] (fun i => [.sl (row.map encI), .sl (l.map encSp), .v (.int .i64 l.length), .v (.int .i64 i)]) (fun _ => []) (fun i => l.length - i) 0 (Nat.le_of_eq hβ) ⟨by omega, by simp⟩ (by simp only [List.length_map]; rfl) rfl ?_
  rintro i ⟨hi, hv⟩
  repeat (first | refine js rfl ?_ | (refine jdraw ?_ ?_; · kernel_rfl) | refine jbu rfl rfl rfl rfl ?_)
  refine jc rfl rfl rfl (fun h => ?_) (fun h => ?_)
  · have h := of_decide_eq_true h
    have hi1 : i < l.length := by omega
    have w1 := idx_next hi1 (by omega)
    have hh := has_ok row (i : Int) hr
    have hw : wholeP l row i = !(decide ((at' l (i : Int)).to ≥ 0) && !row.contains (i : Int)) := rfl
    repeat (first | refine js rfl ?_ | (refine jdraw ?_ ?_; · kernel_rfl) | refine jbu rfl rfl rfl rfl ?_)
    refine jo rfl rfl (index_at rfl rfl rfl rfl rfl rfl rfl rfl (by omega) (by omega)) rfl rfl ?_
    cases hc : row.contains (i : Int) <;> rw [hc] at hh hw
    · repeat' (first | refine js rfl ?_ | (refine jdraw ?_ ?_; · kernel_rfl) | refine jbu rfl rfl rfl rfl ?_ | refine jv hh rfl rfl rfl rfl rfl ?_ | refine jo rfl rfl (index_at rfl rfl rfl rfl rfl rfl rfl rfl (by omega) (by omega)) rfl rfl ?_ | (refine jc rfl rfl rfl (fun h => ?_) (fun h => ?_) <;> (try simp only [decide_eq_true_eq, decide_eq_false_iff_not, beq_iff_eq, beq_eq_false_iff_ne, bne_iff_ne, bne_eq_false_iff_eq, ne_eq] at h) <;> (try (exfalso; omega))) | (refine jg rfl rfl rfl rfl (fun h => ?_) (fun h => ?_) <;> (fail_if_success (exact absurd h (by decide))) <;> (try simp only [decide_eq_true_eq, decide_eq_false_iff_not, beq_iff_eq, beq_eq_false_iff_ne, bne_iff_ne, bne_eq_false_iff_eq, ne_eq] at h) <;> (try (exfalso; omega))))
      · rw [show wholeB l row = false from allN_false hi1 (by rw [hw]; grind)]
        exact jr rfl rfl rfl rfl
      · exact jnext (i + 1) ⟨hi1, upto_succ hv (by rw [hw]; grind)⟩ (by omega) rfl rfl rfl (by rw [w1]) rfl
    · repeat' (first | refine js rfl ?_ | (refine jdraw ?_ ?_; · kernel_rfl) | refine jbu rfl rfl rfl rfl ?_ | refine jv hh rfl rfl rfl rfl rfl ?_ | refine jo rfl rfl (index_at rfl rfl rfl rfl rfl rfl rfl rfl (by omega) (by omega)) rfl rfl ?_ | (refine jc rfl rfl rfl (fun h => ?_) (fun h => ?_) <;> (try simp only [decide_eq_true_eq, decide_eq_false_iff_not, beq_iff_eq, beq_eq_false_iff_ne, bne_iff_ne, bne_eq_false_iff_eq, ne_eq] at h) <;> (try (exfalso; omega))) | (refine jg rfl rfl rfl rfl (fun h => ?_) (fun h => ?_) <;> (fail_if_success (exact absurd h (by decide))) <;> (try simp only [decide_eq_true_eq, decide_eq_false_iff_not, beq_iff_eq, beq_eq_false_iff_ne, bne_iff_ne, bne_eq_false_iff_eq, ne_eq] at h) <;> (try (exfalso; omega))))
      all_goals exact jnext (i + 1) ⟨hi1, upto_succ hv (by rw [hw]; grind)⟩ (by omega) rfl rfl rfl (by rw [w1]) rfl
  · have h := of_decide_eq_false h
    have hi2 : i = l.length := by omega
    subst hi2
    rw [show wholeB l row = true from allN_true hv]
    repeat (first | refine js rfl ?_ | (refine jdraw ?_ ?_; · kernel_rfl) | refine jbu rfl rfl rfl rfl ?_)
    exact jr rfl rfl rfl rfl

def freeP (l : List Span) (row : List Int) (n k : Nat) : Bool := !(decide ((k : Int) ≠ (n : Int)) && !row.contains (k : Int) && before (at' l (k : Int)) (at' l (n : Int)))
def freeB (l : List Span) (row : List Int) (n : Nat) : Bool := allN l.length (freeP l row n) && !row.contains (n : Int)
theorem free_ok (l : List Span) (row : List Int) (n : Nat) (hn : n < l.length) (hl : l.length ≤ 1000000) (hr : row.length ≤ 1000000) : ACalls Try.prog 48 [.sl (l.map encSp), .sl (row.map encI), .v (.int .i64 n)] [] (one (.v (.bool (freeB l row n))) []) := by
  refine jcalls Try.func48 rfl (by kernel_rfl) Try.ntmps48 rfl rfl (fun w0 β0 ext hβ => ?_)
  repeat (first | refine js rfl ?_ | (refine jdraw ?_ ?_; · kernel_rfl) | refine jbu rfl rfl rfl rfl ?_)
  refine jloop (ι := Nat) 0 (fun i => i ≤ l.length ∧ ∀ j, j < i → freeP l row n j = true) [0, 1, 2, 9, 10, 11] (fun i => [.sl (l.map encSp), .sl (row.map encI), .v (.int .i64 n), .sl (l.map encSp), .v (.int .i64 l.length), .v (.int .i64 i)]) (fun _ => []) (fun i => l.length - i) 0 (Nat.le_of_eq hβ) ⟨by omega, by simp⟩ (by simp only [List.length_map]; rfl) rfl ?_
  rintro i ⟨hi, hv⟩
  repeat (first | refine js rfl ?_ | (refine jdraw ?_ ?_; · kernel_rfl) | refine jbu rfl rfl rfl rfl ?_)
  refine jc rfl rfl rfl (fun h => ?_) (fun h => ?_)
  · have h := of_decide_eq_true h
    have hi1 : i < l.length := by omega
    have w1 := idx_next hi1 (by omega)
    have hh := has_ok row (i : Int) hr
    have hb := rbefore_ok (at' l (i : Int)) (at' l (n : Int))
    have hw : freeP l row n i = !(decide ((i : Int) ≠ (n : Int)) && !row.contains (i : Int) && before (at' l (i : Int)) (at' l (n : Int))) := rfl
    repeat (first | refine js rfl ?_ | (refine jdraw ?_ ?_; · kernel_rfl) | refine jbu rfl rfl rfl rfl ?_)
    refine jo rfl rfl (index_at rfl rfl rfl rfl rfl rfl rfl rfl (by omega) (by omega)) rfl rfl ?_
    generalize before (at' l (i : Int)) (at' l (n : Int)) = bb at hb hw
    cases hc : row.contains (i : Int) <;> rw [hc] at hh hw
    · repeat' (first | refine js rfl ?_ | (refine jdraw ?_ ?_; · kernel_rfl) | refine jbu rfl rfl rfl rfl ?_ | refine jv hh rfl rfl rfl rfl rfl ?_ | refine jo rfl rfl (index_at rfl rfl rfl rfl rfl rfl rfl rfl (by omega) (by omega)) rfl rfl ?_ | (refine jc rfl rfl rfl (fun h => ?_) (fun h => ?_) <;> (try simp only [decide_eq_true_eq, decide_eq_false_iff_not, beq_iff_eq, beq_eq_false_iff_ne, bne_iff_ne, bne_eq_false_iff_eq, ne_eq] at h) <;> (try (exfalso; omega))) | (refine jg rfl rfl rfl rfl (fun h => ?_) (fun h => ?_) <;> (fail_if_success (exact absurd h (by decide))) <;> (try simp only [decide_eq_true_eq, decide_eq_false_iff_not, beq_iff_eq, beq_eq_false_iff_ne, bne_iff_ne, bne_eq_false_iff_eq, ne_eq] at h) <;> (try (exfalso; omega))))
      all_goals try exact jnext (i + 1) ⟨hi1, upto_succ hv (by rw [hw]; grind)⟩ (by omega) rfl rfl rfl (by rw [w1]) rfl
      cases bb
      · repeat (first | refine js rfl ?_ | (refine jdraw ?_ ?_; · kernel_rfl) | refine jbu rfl rfl rfl rfl ?_ | refine jv hb rfl rfl rfl rfl rfl ?_)
        exact jnext (i + 1) ⟨hi1, upto_succ hv (by rw [hw]; grind)⟩ (by omega) rfl rfl rfl (by rw [w1]) rfl
      · repeat (first | refine js rfl ?_ | (refine jdraw ?_ ?_; · kernel_rfl) | refine jbu rfl rfl rfl rfl ?_ | refine jv hb rfl rfl rfl rfl rfl ?_)
        rw [show freeB l row n = false by unfold freeB; rw [allN_false hi1 (by rw [hw]; grind)]; rfl]
        exact jr rfl rfl rfl rfl
    · repeat' (first | refine js rfl ?_ | (refine jdraw ?_ ?_; · kernel_rfl) | refine jbu rfl rfl rfl rfl ?_ | refine jv hh rfl rfl rfl rfl rfl ?_ | refine jo rfl rfl (index_at rfl rfl rfl rfl rfl rfl rfl rfl (by omega) (by omega)) rfl rfl ?_ | (refine jc rfl rfl rfl (fun h => ?_) (fun h => ?_) <;> (try simp only [decide_eq_true_eq, decide_eq_false_iff_not, beq_iff_eq, beq_eq_false_iff_ne, bne_iff_ne, bne_eq_false_iff_eq, ne_eq] at h) <;> (try (exfalso; omega))) | (refine jg rfl rfl rfl rfl (fun h => ?_) (fun h => ?_) <;> (fail_if_success (exact absurd h (by decide))) <;> (try simp only [decide_eq_true_eq, decide_eq_false_iff_not, beq_iff_eq, beq_eq_false_iff_ne, bne_iff_ne, bne_eq_false_iff_eq, ne_eq] at h) <;> (try (exfalso; omega))))
      all_goals exact jnext (i + 1) ⟨hi1, upto_succ hv (by rw [hw]; grind)⟩ (by omega) rfl rfl rfl (by rw [w1]) rfl
  · have h := of_decide_eq_false h
    have hi2 : i = l.length := by omega
    subst hi2
    have hh := has_ok row (n : Int) hr
    rw [show freeB l row n = !row.contains (n : Int) by unfold freeB; rw [allN_true hv]; rfl]
    repeat (first | refine js rfl ?_ | (refine jdraw ?_ ?_; · kernel_rfl) | refine jbu rfl rfl rfl rfl ?_ | refine jv hh rfl rfl rfl rfl rfl ?_)
    exact jr rfl rfl rfl rfl

/-- the map behind a span -/
def nextS (m : List Pair) (s : Span) : List Pair × Bool := if s.to ≥ 0 then raccA m s.call s.reply else ((doS m s.call).1, true)
theorem rnext_ok (m : List Pair) (s : Span) (hm : right m = true) (hs : may s.call = true) : ACalls Try.prog 49 [.sl (m.map encP), encSp s] [] (one (.tup [.sl ((nextS m s).1.map encP), .v (.bool (nextS m s).2)]) []) := by
  have hl := right_len hm
  have h1 := racc_ok m s.call s.reply (by omega)
  have h2 := rdo_ok m s.call (by omega)
  rw [← do_eq hm hs] at h2
  unfold nextS
  refine jcalls Try.func49 rfl (by kernel_rfl) Try.ntmps49 rfl rfl (fun w0 β0 ext hβ => ?_)
  repeat' (first | refine js rfl ?_ | (refine jdraw ?_ ?_; · kernel_rfl) | refine jbu rfl rfl rfl rfl ?_ | refine jv h1 rfl rfl rfl rfl rfl ?_ | refine jv h2 rfl rfl rfl rfl rfl ?_ | refine jo rfl rfl (index_at rfl rfl rfl rfl rfl rfl rfl rfl (by omega) (by omega)) rfl rfl ?_ | (refine jc rfl rfl rfl (fun h => ?_) (fun h => ?_) <;> (try simp only [decide_eq_true_eq, decide_eq_false_iff_not, beq_iff_eq, beq_eq_false_iff_ne, bne_iff_ne, bne_eq_false_iff_eq, ne_eq] at h) <;> (try (exfalso; omega))) | (refine jg rfl rfl rfl rfl (fun h => ?_) (fun h => ?_) <;> (fail_if_success (exact absurd h (by decide))) <;> (try simp only [decide_eq_true_eq, decide_eq_false_iff_not, beq_iff_eq, beq_eq_false_iff_ne, bne_iff_ne, bne_eq_false_iff_eq, ne_eq] at h) <;> (try (exfalso; omega))))
  · rw [if_pos h]; exact jr rfl rfl rfl rfl
  · rw [if_neg h]; exact jr rfl rfl rfl rfl
theorem racc_right {m : List Pair} (hm : right m = true) (c : Call) (r : Reply) : right (raccA m c r).1 = true := by
  have h2 := rdo_right hm c
  unfold raccA
  repeat' split
  all_goals first | exact h2 | exact hm | exact right_iff.2 ⟨by simp, by simp⟩
theorem next_right {m : List Pair} (hm : right m = true) {s : Span} (hs : may s.call = true) : right (nextS m s).1 = true := by
  unfold nextS
  split
  · exact racc_right hm _ _
  · exact do_right hm hs
end Go.AL
