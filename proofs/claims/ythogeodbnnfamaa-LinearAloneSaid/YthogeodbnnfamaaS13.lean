/-
  Whether a reply is accepted, and rows of calls. No conditions.
-/
import Derived.Test.YthogeodbnnfamaaS11
import Derived.Test.YthogeodbnnfamaaL4
set_option linter.unusedVariables false
set_option linter.unusedSimpArgs false
set_option maxRecDepth 100000
namespace Go.AL
open Go Go.Proofs
attribute [local irreducible] J inB right may

def needsS (m : List Pair) (c : Call) : Bool :=
  if c.kind = 1 ∨ c.kind = 7 then true else if c.kind = 2 then !(has m c.key) else if c.kind = 3 then has m c.key && decide ((at' m (place m c.key : Int)).value = c.old) else false
theorem needs_ok (m : List Pair) (c : Call) : ACalls Try.prog 42 [.ptr 0 0] [.box 75 (encS m c)] (one (.v (.bool (needsS m c))) [.box 75 (encS m c)]) := by
  cases hb : has m c.key
  · simp only [encS, hb]
    refine jcalls Try.func42 rfl (by kernel_rfl) Try.ntmps42 rfl rfl (fun w0 β0 ext hβ => ?_)
    repeat' (first | refine js rfl ?_ | (refine jdraw ?_ ?_; · kernel_rfl) | refine jbu rfl rfl rfl rfl ?_ | refine jo rfl rfl (index_at rfl rfl rfl rfl rfl rfl rfl rfl (by omega) (by omega)) rfl rfl ?_ | (refine jc rfl rfl rfl (fun h => ?_) (fun h => ?_) <;> (try simp only [decide_eq_true_eq, decide_eq_false_iff_not, beq_iff_eq, beq_eq_false_iff_ne, bne_iff_ne, bne_eq_false_iff_eq, ne_eq] at h) <;> (try (exfalso; omega))) | (refine jg rfl rfl rfl rfl (fun h => ?_) (fun h => ?_) <;> (fail_if_success (exact absurd h (by decide))) <;> (try simp only [decide_eq_true_eq, decide_eq_false_iff_not, beq_iff_eq, beq_eq_false_iff_ne, bne_iff_ne, bne_eq_false_iff_eq, ne_eq] at h) <;> (try (exfalso; omega))))
    all_goals refine jr rfl rfl ?_ rfl
    all_goals try refine congrArg (fun b => AVal.v (.bool b)) ?_
    all_goals simp_all [needsS]
  · have hlt := has_lt hb
    simp only [encS, hb]
    refine jcalls Try.func42 rfl (by kernel_rfl) Try.ntmps42 rfl rfl (fun w0 β0 ext hβ => ?_)
    repeat' (first | refine js rfl ?_ | (refine jdraw ?_ ?_; · kernel_rfl) | refine jbu rfl rfl rfl rfl ?_ | refine jo rfl rfl (index_at rfl rfl rfl rfl rfl rfl rfl rfl (by omega) (by omega)) rfl rfl ?_ | (refine jc rfl rfl rfl (fun h => ?_) (fun h => ?_) <;> (try simp only [decide_eq_true_eq, decide_eq_false_iff_not, beq_iff_eq, beq_eq_false_iff_ne, bne_iff_ne, bne_eq_false_iff_eq, ne_eq] at h) <;> (try (exfalso; omega))) | (refine jg rfl rfl rfl rfl (fun h => ?_) (fun h => ?_) <;> (fail_if_success (exact absurd h (by decide))) <;> (try simp only [decide_eq_true_eq, decide_eq_false_iff_not, beq_iff_eq, beq_eq_false_iff_ne, bne_iff_ne, bne_eq_false_iff_eq, ne_eq] at h) <;> (try (exfalso; omega))))
    all_goals refine jr rfl rfl ?_ rfl
    all_goals try refine congrArg (fun b => AVal.v (.bool b)) ?_
    all_goals simp_all [needsS]
    all_goals rfl
def sameR (r s : Reply) : Bool := decide ([r.why, r.value] = [s.why, s.value])
def accA (m : List Pair) (c : Call) (r : Reply) : List Pair × Bool × Int :=
  if right m && may c then (if sameR (doS m c).2 r then ((doS m c).1, true, 0) else if sameR r ⟨14, 0⟩ && needsS m c then (m, true, 0) else ([], false, 0)) else ([], false, 1)
theorem accept_ok (m : List Pair) (c : Call) (r : Reply) (hm : m.length ≤ 1000000) : ACalls Try.prog 20 [.sl (m.map encP), encC c, encR r] [] (one (.tup [.sl ((accA m c r).1.map encP), .v (.bool (accA m c r).2.1), .v (.int .i64 (accA m c r).2.2)]) []) := by
  have hd := Do_ok m c hm
  cases hr : right m && may c
  · have e1 : doA m c = ([], ⟨0, 0⟩, 1) := by simp [doA, hr]
    have e2 : accA m c r = ([], false, 1) := by simp [accA, hr]
    rw [e1] at hd
    rw [e2]
    refine jcalls Try.func20 rfl (by kernel_rfl) Try.ntmps20 rfl rfl (fun w0 β0 ext hβ => ?_)
    repeat (first | refine js rfl ?_ | (refine jdraw ?_ ?_; · kernel_rfl) | refine jbu rfl rfl rfl rfl ?_ | refine jv hd rfl rfl rfl rfl rfl ?_)
    exact jr rfl rfl rfl rfl
  · have e1 : doA m c = ((doS m c).1, (doS m c).2, 0) := by simp [doA, hr]
    have e2 : accA m c r = (if sameR (doS m c).2 r then ((doS m c).1, true, 0) else if sameR r ⟨14, 0⟩ && needsS m c then (m, true, 0) else ([], false, 0)) := by simp [accA, hr]
    rw [e1] at hd
    rw [e2]
    generalize doS m c = q at hd
    obtain ⟨n, w, v⟩ := q
    obtain ⟨rw, rv⟩ := r
    simp only [Bool.and_eq_true] at hr
    have hnew := newState_ok m c hm (right_sorted hr.1).1
    have hneeds := needs_ok m c
    refine jcalls Try.func20 rfl (by kernel_rfl) Try.ntmps20 rfl rfl (fun w0 β0 ext hβ => ?_)
    repeat (first | refine js rfl ?_ | (refine jdraw ?_ ?_; · kernel_rfl) | refine jbu rfl rfl rfl rfl ?_ | refine jv hd rfl rfl rfl rfl rfl ?_)
    refine jo rfl rfl (eq_ints (xs := [w, v]) (ys := [rw, rv]) (Or.inl rfl) rfl rfl rfl rfl rfl rfl (by kernel_rfl) (by kernel_rfl)) rfl rfl ?_
    repeat (first | refine js rfl ?_ | (refine jdraw ?_ ?_; · kernel_rfl) | refine jbu rfl rfl rfl rfl ?_)
    refine jc rfl rfl rfl (fun h => ?_) (fun h => ?_)
    · repeat (first | refine js rfl ?_ | (refine jdraw ?_ ?_; · kernel_rfl) | refine jbu rfl rfl rfl rfl ?_)
      have h : sameR ⟨w, v⟩ ⟨rw, rv⟩ = true := h
      rw [h]
      exact jr rfl rfl rfl rfl
    have h : sameR ⟨w, v⟩ ⟨rw, rv⟩ = false := h
    rw [h]
    repeat (first | refine js rfl ?_ | (refine jdraw ?_ ?_; · kernel_rfl) | refine jbu rfl rfl rfl rfl ?_)
    refine jo rfl rfl (eq_ints (xs := [rw, rv]) (ys := [14, 0]) (Or.inl rfl) rfl rfl rfl rfl rfl rfl (by kernel_rfl) (by kernel_rfl)) rfl rfl ?_
    repeat (first | refine js rfl ?_ | (refine jdraw ?_ ?_; · kernel_rfl) | refine jbu rfl rfl rfl rfl ?_)
    refine jg rfl rfl rfl rfl (fun h2 => ?_) (fun h2 => ?_)
    · have h2 : sameR ⟨rw, rv⟩ ⟨14, 0⟩ = true := h2
      rw [h2]
      repeat (first | refine js rfl ?_ | (refine jdraw ?_ ?_; · kernel_rfl) | refine jbu rfl rfl rfl rfl ?_)
      refine jb [] hnew rfl rfl rfl ⟨rfl, rfl, rfl, rfl, rfl, rfl⟩ rfl rfl rfl rfl ?_
      repeat (first | refine js rfl ?_ | (refine jdraw ?_ ?_; · kernel_rfl) | refine jbu rfl rfl rfl rfl ?_)
      refine jb [3] hneeds rfl rfl rfl ⟨rfl, rfl, rfl, rfl, rfl, rfl⟩ rfl rfl rfl rfl ?_
      repeat (first | refine js rfl ?_ | (refine jdraw ?_ ?_; · kernel_rfl) | refine jbu rfl rfl rfl rfl ?_)
      cases needsS m c
      · repeat (first | refine js rfl ?_ | (refine jdraw ?_ ?_; · kernel_rfl) | refine jbu rfl rfl rfl rfl ?_)
        exact jr rfl rfl rfl rfl
      · repeat (first | refine js rfl ?_ | (refine jdraw ?_ ?_; · kernel_rfl) | refine jbu rfl rfl rfl rfl ?_)
        exact jr rfl rfl rfl rfl
    · have h2 : sameR ⟨rw, rv⟩ ⟨14, 0⟩ = false := h2
      rw [h2]
      repeat (first | refine js rfl ?_ | (refine jdraw ?_ ?_; · kernel_rfl) | refine jbu rfl rfl rfl rfl ?_)
      exact jr rfl rfl rfl rfl

instance : Inhabited Call := ⟨⟨0, 0, 0, 0⟩⟩
theorem calls_ok (l : List Call) (hl : l.length ≤ 1000000) : ACalls Try.prog 22 [.sl (l.map encC)] [] (one (.v (.bool (l.all may))) []) := by
  refine jcalls Try.func22 rfl (by kernel_rfl) Try.ntmps22 rfl rfl (fun w0 β0 ext hβ => ?_)
  repeat (first | refine js rfl ?_ | (refine jdraw ?_ ?_; · kernel_rfl) | refine jbu rfl rfl rfl rfl ?_)
  refine jloop (ι := Nat) 0 (fun i => i ≤ l.length ∧ l.all may = (l.drop i).all may) [5, 6, 7] (fun i => [.sl (l.map encC), .v (.int .i64 l.length), .v (.int .i64 i)]) (fun _ => []) (fun i => l.length - i) 0 (Nat.le_of_eq hβ) ⟨by omega, rfl⟩ (by simp only [List.length_map]; rfl) rfl ?_
  rintro i ⟨hi, hv⟩
  repeat (first | refine js rfl ?_ | (refine jdraw ?_ ?_; · kernel_rfl) | refine jbu rfl rfl rfl rfl ?_)
  refine jc rfl rfl rfl (fun h => ?_) (fun h => ?_)
  · have h := of_decide_eq_true h
    have hi1 : i < l.length := by omega
    have w1 := idx_next hi1 (by omega)
    have hrm := rmay_ok (at' l (i : Int))
    rw [List.drop_eq_getElem_cons hi1, List.all_cons, ← at_nat l i hi1] at hv
    repeat (first | refine js rfl ?_ | (refine jdraw ?_ ?_; · kernel_rfl) | refine jbu rfl rfl rfl rfl ?_)
    refine jo rfl rfl (index_at rfl rfl rfl rfl rfl rfl rfl rfl (by omega) (by omega)) rfl rfl ?_
    cases hb : may (at' l (i : Int))
    · rw [hb] at hrm hv
      repeat (first | refine js rfl ?_ | (refine jdraw ?_ ?_; · kernel_rfl) | refine jbu rfl rfl rfl rfl ?_ | refine jv hrm rfl rfl rfl rfl rfl ?_)
      rw [hv]
      exact jr rfl rfl rfl rfl
    · rw [hb] at hrm hv
      repeat (first | refine js rfl ?_ | (refine jdraw ?_ ?_; · kernel_rfl) | refine jbu rfl rfl rfl rfl ?_ | refine jv hrm rfl rfl rfl rfl rfl ?_)
      exact jnext (i + 1) ⟨hi1, hv⟩ (by omega) rfl rfl rfl (by rw [w1]) rfl
  · have h := of_decide_eq_false h
    have hi2 : i = l.length := by omega
    subst hi2
    rw [hv, List.drop_length]
    repeat (first | refine js rfl ?_ | (refine jdraw ?_ ?_; · kernel_rfl) | refine jbu rfl rfl rfl rfl ?_)
    exact jr rfl rfl rfl rfl
end Go.AL
