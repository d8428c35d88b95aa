/-
  The law AtomicTurns by contracts. No conditions.
-/
import Derived.Test.YthogeodbnnfamaaS19
set_option linter.unusedVariables false
set_option linter.unusedSimpArgs false
set_option maxRecDepth 100000
namespace Go.AL
open Go Go.Proofs
attribute [local irreducible] J inB right may

/-- where there is room: what is found behind a call, and what it tells, hang on what is found of its key -/
def toldV (c : Call) (v : Int) (is : Bool) : Reply :=
  if c.kind > 5 then ⟨0, 0⟩ else if c.kind = 1 ∨ (c.kind = 2 ∧ is = false) ∨ (c.kind = 3 ∧ is = true ∧ v = c.old) then ⟨0, 0⟩
  else if is = false then ⟨8, 0⟩ else if c.kind = 0 then ⟨0, v⟩ else if c.kind = 2 then ⟨15, v⟩ else if c.kind = 3 then ⟨16, v⟩ else ⟨0, v⟩
def thenV (c : Call) (v : Int) (is : Bool) : Int × Bool :=
  if c.kind > 5 then (v, is) else if c.kind = 1 ∨ (c.kind = 2 ∧ is = false) ∨ (c.kind = 3 ∧ is = true ∧ v = c.old) then (c.value, true)
  else if is = false then (v, is) else if c.kind = 0 then (v, is) else if c.kind = 2 then (v, is) else if c.kind = 3 then (v, is) else (0, false)
theorem do_room {m : List Pair} {c : Call} (hr : right m = true) (hc : may c = true) (hl : m.length ≤ 11) (h5 : c.kind ≠ 5) :
    (doS m c).2 = toldV c (valR m c.key).1 (valR m c.key).2 ∧ (∀ k, valR (doS m c).1 k = if k = c.key then thenV c (valR m c.key).1 (valR m c.key).2 else valR m k) ∧ (doS m c).1.length ≤ m.length + 1 := by
  refine ⟨?_, fun k => ?_, do_len m c⟩
  all_goals rw [do_eq hr hc]
  all_goals unfold rdoS rdoB rputS
  all_goals have hw := wi_len m c.key c.value
  all_goals rw [if_neg h5, if_neg (show ¬ (wi m c.key c.value).length > 12 by omega)]
  · unfold toldV
    grind
  · have v1 := val_wo m c.key k
    have v2 := val_wi m c.key c.value k
    unfold thenV
    grind
theorem turns {m : List Pair} {a b : Call} (hr : right m = true) (ha : may a = true) (hb : may b = true) (hl : m.length ≤ 10) (ha5 : a.kind ≠ 5) (hb5 : b.kind ≠ 5) (hk : a.key ≠ b.key) :
    (doS (doS m b).1 a).2 = (doS m a).2 ∧ (doS (doS m a).1 b).2 = (doS m b).2 ∧ (doS (doS m a).1 b).1 = (doS (doS m b).1 a).1 := by
  obtain ⟨a1, a2, a3⟩ := do_room hr ha (by omega) ha5
  obtain ⟨b1, b2, b3⟩ := do_room hr hb (by omega) hb5
  have ra := do_right hr ha
  have rb := do_right hr hb
  obtain ⟨c1, c2, c3⟩ := do_room ra hb (by omega) hb5
  obtain ⟨d1, d2, d3⟩ := do_room rb ha (by omega) ha5
  have ea : valR (doS m b).1 a.key = valR m a.key := by rw [b2, if_neg hk]
  have eb : valR (doS m a).1 b.key = valR m b.key := by rw [a2, if_neg (Ne.symm hk)]
  refine ⟨by rw [d1, ea, a1], by rw [c1, eb, b1], ?_⟩
  refine map_ext (right_iff.1 (do_right ra hb)).1 (right_iff.1 (do_right rb ha)).1 fun k => ?_
  rw [c2, d2, eb, ea, a2, b2]
  by_cases h1 : k = a.key
  · subst h1; simp [hk]
  · simp [h1]
theorem turnsA_ok (M : List Pair) (a b : Call) (hM : M.length ≤ 9223372036854775807) :
    ACalls Try.prog 5 [.sl (M.map encP), encC a, encC b] [] (one (.v (.bool true)) []) := by
  have hfew := few_ok M hM
  have hcut := min_if encP (M.take 14) 10
  have hm : ((M.take 14).take 10).length ≤ 10 := by rw [List.length_take]; omega
  generalize hL : (M.take 14) = L at hfew hm hcut
  have hd1 := Do_ok (L.take 10) a (by omega)
  have hd2 := Do_ok (L.take 10) b (by omega)
  generalize hg : L.take 10 = m at hd1 hd2 hm
  cases hr : right m
  · have e1 : doA m a = ([], ⟨0, 0⟩, 1) := by simp [doA, hr]
    have e2 : doA m b = ([], ⟨0, 0⟩, 1) := by simp [doA, hr]
    rw [e1] at hd1
    rw [e2] at hd2
    refine jcalls Try.func5 rfl (by kernel_rfl) Try.ntmps5 rfl rfl (fun w0 β0 ext hβ => ?_)
    repeat (first | refine js rfl ?_ | (refine jdraw ?_ ?_; · kernel_rfl) | refine jv hfew rfl rfl rfl rfl rfl ?_)
    refine jo rfl rfl (cut_take 10 rfl rfl rfl hcut rfl rfl rfl (fun _ => ⟨rfl, rfl⟩)) rfl rfl ?_
    rw [hg]
    repeat (first | refine js rfl ?_ | (refine jdraw ?_ ?_; · kernel_rfl) | refine jv hd1 rfl rfl rfl rfl rfl ?_ | refine jv hd2 rfl rfl rfl rfl rfl ?_ | refine jv alive_ok rfl rfl rfl rfl rfl ?_)
    exact jr rfl rfl rfl rfl
  cases ha : may a
  · have e1 : doA m a = ([], ⟨0, 0⟩, 1) := by simp [doA, ha]
    rw [e1] at hd1
    cases hb : may b
    · have e2 : doA m b = ([], ⟨0, 0⟩, 1) := by simp [doA, hb]
      rw [e2] at hd2
      refine jcalls Try.func5 rfl (by kernel_rfl) Try.ntmps5 rfl rfl (fun w0 β0 ext hβ => ?_)
      repeat (first | refine js rfl ?_ | (refine jdraw ?_ ?_; · kernel_rfl) | refine jv hfew rfl rfl rfl rfl rfl ?_)
      refine jo rfl rfl (cut_take 10 rfl rfl rfl hcut rfl rfl rfl (fun _ => ⟨rfl, rfl⟩)) rfl rfl ?_
      rw [hg]
      repeat (first | refine js rfl ?_ | (refine jdraw ?_ ?_; · kernel_rfl) | refine jv hd1 rfl rfl rfl rfl rfl ?_ | refine jv hd2 rfl rfl rfl rfl rfl ?_ | refine jv alive_ok rfl rfl rfl rfl rfl ?_)
      exact jr rfl rfl rfl rfl
    · have e2 : doA m b = ((doS m b).1, (doS m b).2, 0) := by simp [doA, hr, hb]
      rw [e2] at hd2
      refine jcalls Try.func5 rfl (by kernel_rfl) Try.ntmps5 rfl rfl (fun w0 β0 ext hβ => ?_)
      repeat (first | refine js rfl ?_ | (refine jdraw ?_ ?_; · kernel_rfl) | refine jv hfew rfl rfl rfl rfl rfl ?_)
      refine jo rfl rfl (cut_take 10 rfl rfl rfl hcut rfl rfl rfl (fun _ => ⟨rfl, rfl⟩)) rfl rfl ?_
      rw [hg]
      repeat (first | refine js rfl ?_ | (refine jdraw ?_ ?_; · kernel_rfl) | refine jv hd1 rfl rfl rfl rfl rfl ?_ | refine jv hd2 rfl rfl rfl rfl rfl ?_ | refine jv alive_ok rfl rfl rfl rfl rfl ?_)
      exact jr rfl rfl rfl rfl
  have e1 : doA m a = ((doS m a).1, (doS m a).2, 0) := by simp [doA, hr, ha]
  rw [e1] at hd1
  cases hb : may b
  · have e2 : doA m b = ([], ⟨0, 0⟩, 1) := by simp [doA, hb]
    rw [e2] at hd2
    refine jcalls Try.func5 rfl (by kernel_rfl) Try.ntmps5 rfl rfl (fun w0 β0 ext hβ => ?_)
    repeat (first | refine js rfl ?_ | (refine jdraw ?_ ?_; · kernel_rfl) | refine jv hfew rfl rfl rfl rfl rfl ?_)
    refine jo rfl rfl (cut_take 10 rfl rfl rfl hcut rfl rfl rfl (fun _ => ⟨rfl, rfl⟩)) rfl rfl ?_
    rw [hg]
    repeat (first | refine js rfl ?_ | (refine jdraw ?_ ?_; · kernel_rfl) | refine jv hd1 rfl rfl rfl rfl rfl ?_ | refine jv hd2 rfl rfl rfl rfl rfl ?_ | refine jv alive_ok rfl rfl rfl rfl rfl ?_)
    exact jr rfl rfl rfl rfl
  have e2 : doA m b = ((doS m b).1, (doS m b).2, 0) := by simp [doA, hr, hb]
  rw [e2] at hd2
  have ra := do_right hr ha
  have rb := do_right hr hb
  have hd3 := Do_ok (doS m a).1 b (by have := right_len ra; omega)
  have hd4 := Do_ok (doS m b).1 a (by have := right_len rb; omega)
  have e3 : doA (doS m a).1 b = ((doS (doS m a).1 b).1, (doS (doS m a).1 b).2, 0) := by simp [doA, ra, hb]
  have e4 : doA (doS m b).1 a = ((doS (doS m b).1 a).1, (doS (doS m b).1 a).2, 0) := by simp [doA, rb, ha]
  rw [e3] at hd3
  rw [e4] at hd4
  have ht := turns hr ha hb hm
  have hs := same_ok (doS (doS m a).1 b).1 (by have := right_len (do_right ra hb); omega)
  generalize doS (doS m a).1 b = q1 at hd3 ht hs
  generalize doS (doS m b).1 a = q2 at hd4 ht
  generalize doS m a = q3 at hd1 hd3 ht
  generalize doS m b = q4 at hd2 hd4 ht
  obtain ⟨x1, w1, v1⟩ := q1
  obtain ⟨x2, w2, v2⟩ := q2
  obtain ⟨x3, w3, v3⟩ := q3
  obtain ⟨x4, w4, v4⟩ := q4
  dsimp only at hd1 hd2 hd3 hd4 ht hs
  simp only [Reply.mk.injEq] at ht
  by_cases hh : a.kind = 5 ∨ b.kind = 5 ∨ a.key = b.key
  · clear ht
    refine jcalls Try.func5 rfl (by kernel_rfl) Try.ntmps5 rfl rfl (fun w0 β0 ext hβ => ?_)
    repeat (first | refine js rfl ?_ | (refine jdraw ?_ ?_; · kernel_rfl) | refine jv hfew rfl rfl rfl rfl rfl ?_)
    refine jo rfl rfl (cut_take 10 rfl rfl rfl hcut rfl rfl rfl (fun _ => ⟨rfl, rfl⟩)) rfl rfl ?_
    rw [hg]
    repeat' (first | refine js rfl ?_ | (refine jdraw ?_ ?_; · kernel_rfl) | refine jv hd1 rfl rfl rfl rfl rfl ?_ | refine jv hd2 rfl rfl rfl rfl rfl ?_ | refine jv alive_ok rfl rfl rfl rfl rfl ?_ | refine jo rfl rfl (index_at rfl rfl rfl rfl rfl rfl rfl rfl (by omega) (by omega)) rfl rfl ?_ | (refine jc rfl rfl rfl (fun h => ?_) (fun h => ?_) <;> (try simp only [decide_eq_true_eq, decide_eq_false_iff_not, beq_iff_eq, beq_eq_false_iff_ne, bne_iff_ne, bne_eq_false_iff_eq, ne_eq] at h) <;> (try (exfalso; omega))) | (refine jg rfl rfl rfl rfl (fun h => ?_) (fun h => ?_) <;> (fail_if_success (exact absurd h (by decide))) <;> (try simp only [decide_eq_true_eq, decide_eq_false_iff_not, beq_iff_eq, beq_eq_false_iff_ne, bne_iff_ne, bne_eq_false_iff_eq, ne_eq] at h) <;> (try (exfalso; omega))))
    all_goals exact jr rfl rfl rfl rfl
  · obtain ⟨⟨rfl, rfl⟩, ⟨rfl, rfl⟩, rfl⟩ := ht (by omega) (by omega) (by omega)
    refine jcalls Try.func5 rfl (by kernel_rfl) Try.ntmps5 rfl rfl (fun w0 β0 ext hβ => ?_)
    repeat (first | refine js rfl ?_ | (refine jdraw ?_ ?_; · kernel_rfl) | refine jv hfew rfl rfl rfl rfl rfl ?_)
    refine jo rfl rfl (cut_take 10 rfl rfl rfl hcut rfl rfl rfl (fun _ => ⟨rfl, rfl⟩)) rfl rfl ?_
    rw [hg]
    repeat' (first | refine js rfl ?_ | (refine jdraw ?_ ?_; · kernel_rfl) | refine jv hd1 rfl rfl rfl rfl rfl ?_ | refine jv hd2 rfl rfl rfl rfl rfl ?_ | refine jv hd3 rfl rfl rfl rfl rfl ?_ | refine jv hd4 rfl rfl rfl rfl rfl ?_ | refine jv alive_ok rfl rfl rfl rfl rfl ?_ | refine jv hs rfl rfl rfl rfl rfl ?_ | refine jo rfl rfl (eq2s eqR rfl rfl) rfl rfl ?_ | refine jo rfl rfl (index_at rfl rfl rfl rfl rfl rfl rfl rfl (by omega) (by omega)) rfl rfl ?_ | (refine jc rfl rfl rfl (fun h => ?_) (fun h => ?_) <;> (try simp only [decide_eq_true_eq, decide_eq_false_iff_not, beq_iff_eq, beq_eq_false_iff_ne, bne_iff_ne, bne_eq_false_iff_eq, ne_eq] at h) <;> (try (exfalso; omega))) | (refine jg rfl rfl rfl rfl (fun h => ?_) (fun h => ?_) <;> (fail_if_success (exact absurd h (by decide))) <;> (try simp only [decide_eq_true_eq, decide_eq_false_iff_not, beq_iff_eq, beq_eq_false_iff_ne, bne_iff_ne, bne_eq_false_iff_eq, ne_eq] at h) <;> (try (exfalso; omega))))
    all_goals exact jr rfl rfl rfl rfl
end Go.AL
