/-
  Rows of calls, and accepted replies, as the reference has them. No conditions.
-/
import Derived.Test.YthogeodbnnfamaaS14
import Derived.Test.YthogeodbnnfamaaL4
set_option linter.unusedVariables false
set_option linter.unusedSimpArgs false
set_option maxRecDepth 100000
namespace Go.AL
open Go Go.Proofs
attribute [local irreducible] J inB right may

def runS (m : List Pair) : List Call → List Pair × List Reply
  | [] => (m, [])
  | c :: l => ((runS (doS m c).1 l).1, (doS m c).2 :: (runS (doS m c).1 l).2)
def runA (m : List Pair) (l : List Call) : List Pair × List Reply × Int := if right m && l.all may then ((runS m l).1, (runS m l).2, 0) else ([], [], 1)
theorem elemsR (l : List Reply) : ElemsOk 2 (l.map encR) := elems_map _ fun _ => ⟨rfl, rfl⟩
theorem run_ok (m : List Pair) (l : List Call) (hm : m.length ≤ 1000) (hl : l.length ≤ 1000) : ACalls Try.prog 21 [.sl (m.map encP), .sl (l.map encC)] [] (one (.tup [.sl ((runA m l).1.map encP), .sl ((runA m l).2.1.map encR), .v (.int .i64 (runA m l).2.2)]) []) := by
  have hright := right_ok m (by omega)
  cases hr : right m
  · have e : runA m l = ([], [], 1) := by simp [runA, hr]
    rw [e]
    rw [hr] at hright
    refine jcalls Try.func21 rfl (by kernel_rfl) Try.ntmps21 rfl rfl (fun w0 β0 ext hβ => ?_)
    repeat (first | refine js rfl ?_ | (refine jdraw ?_ ?_; · kernel_rfl) | refine jbu rfl rfl rfl rfl ?_ | refine jv hright rfl rfl rfl rfl rfl ?_)
    exact jr rfl rfl rfl rfl
  rw [hr] at hright
  refine jcalls Try.func21 rfl (by kernel_rfl) Try.ntmps21 rfl rfl (fun w0 β0 ext hβ => ?_)
  repeat (first | refine js rfl ?_ | (refine jdraw ?_ ?_; · kernel_rfl) | refine jbu rfl rfl rfl rfl ?_ | refine jv hright rfl rfl rfl rfl rfl ?_)
  refine jad 7 28 2 rfl rfl rfl rfl ?_
  have h0 := right_len hr
  refine jloop (ι := Nat × List Pair × List Reply × Nat) 1 (fun x => x.1 ≤ l.length ∧ right x.2.1 = true ∧ x.2.2.1.length = x.1 ∧ (l.take x.1).all may = true ∧ (runS m l).1 = (runS x.2.1 (l.drop x.1)).1 ∧ (runS m l).2 = x.2.2.1 ++ (runS x.2.1 (l.drop x.1)).2)
    [16, 17, 18, 0, 7] (fun x => [.sl (l.map encC), .v (.int .i64 l.length), .v (.int .i64 x.1), .sl (x.2.1.map encP), .arr 0 x.2.2.2]) (fun x => [.arr x.2.2.2 28 2 (x.2.2.1.map encR)]) (fun x => l.length - x.1) (0, m, [], 1) (by rw [hβ]; decide)
    ⟨by simp, hr, rfl, rfl, rfl, rfl⟩ (by simp only [List.length_map]; rfl) rfl ?_
  rintro ⟨i, n, out, g⟩ ⟨hi, hn, ho, ha, hs1, hs2⟩
  dsimp only at hi hn ho ha hs1 hs2
  repeat (first | refine js rfl ?_ | (refine jdraw ?_ ?_; · kernel_rfl) | refine jbu rfl rfl rfl rfl ?_)
  refine jc rfl rfl rfl (fun h => ?_) (fun h => ?_)
  · have h := of_decide_eq_true h
    dsimp only at h
    have hi1 : i < l.length := by omega
    have w1 := idx_next hi1 (by omega)
    have hdo := Do_ok n (at' l (i : Int)) (by have := right_len hn; omega)
    repeat (first | refine js rfl ?_ | (refine jdraw ?_ ?_; · kernel_rfl) | refine jbu rfl rfl rfl rfl ?_)
    refine jo rfl rfl (index_at rfl rfl rfl rfl rfl rfl rfl rfl (by dsimp only; omega) (by dsimp only; omega)) rfl rfl ?_
    rw [List.drop_eq_getElem_cons hi1, ← at_nat l i hi1] at hs1 hs2
    cases hb : may (at' l (i : Int))
    · have e : doA n (at' l (i : Int)) = ([], ⟨0, 0⟩, 1) := by simp [doA, hb]
      have e2 : runA m l = ([], [], 1) := by
        have : l.all may = false := by
          rw [List.all_eq_false]
          exact ⟨l[i], List.getElem_mem hi1, by rw [← at_nat l i hi1, hb]; decide⟩
        simp [runA, this]
      rw [e] at hdo
      rw [e2]
      repeat (first | refine js rfl ?_ | (refine jdraw ?_ ?_; · kernel_rfl) | refine jbu rfl rfl rfl rfl ?_ | refine jv hdo rfl rfl rfl rfl rfl ?_)
      exact jr rfl rfl rfl rfl
    · have e : doA n (at' l (i : Int)) = ((doS n (at' l (i : Int))).1, (doS n (at' l (i : Int))).2, 0) := by simp [doA, hn, hb]
      rw [e] at hdo
      have hn2 := do_right hn hb
      repeat (first | refine js rfl ?_ | (refine jdraw ?_ ?_; · kernel_rfl) | refine jbu rfl rfl rfl rfl ?_ | refine jv hdo rfl rfl rfl rfl rfl ?_)
      refine jo rfl rfl (append_enc (enc := encR) (doS n (at' l (i : Int))).2 rfl rfl rfl rfl rfl rfl rfl rfl rfl rfl (fun _ => ⟨rfl, rfl⟩) rfl (by dsimp only; omega) rfl rfl) rfl rfl ?_
      repeat (first | refine js rfl ?_ | (refine jdraw ?_ ?_; · kernel_rfl) | refine jbu rfl rfl rfl rfl ?_)
      exact jnext (i + 1, (doS n (at' l (i : Int))).1, out ++ [(doS n (at' l (i : Int))).2], g + 1) ⟨hi1, hn2, by simp [ho], by rw [List.take_succ_eq_append_getElem hi1, List.all_append, ha, ← at_nat l i hi1]; simp [hb], hs1, by rw [hs2]; simp [runS]⟩ (by dsimp only; omega) rfl rfl rfl (by rw [w1]) rfl
  · have h := of_decide_eq_false h
    dsimp only at h
    have hi2 : i = l.length := by omega
    subst hi2
    rw [List.drop_length] at hs1 hs2
    rw [List.take_length] at ha
    have e : runA m l = (n, out, 0) := by simp [runA, hr, ha, hs1, hs2, runS]
    rw [e]
    refine jpub 7 rfl rfl rfl rfl ?_
    repeat (first | refine js rfl ?_ | (refine jdraw ?_ ?_; · kernel_rfl) | refine jbu rfl rfl rfl rfl ?_)
    exact jr rfl rfl rfl rfl

/-! ### the reference -/
theorem rrun_ok (m : List Pair) (l : List Call) (hm : right m = true) (hl : l.length ≤ 1000) (ha : l.all may = true) : ACalls Try.prog 23 [.sl (m.map encP), .sl (l.map encC)] [] (one (.tup [.sl ((runS m l).1.map encP), .sl ((runS m l).2.map encR)]) []) := by
  refine jcalls Try.func23 rfl (by kernel_rfl) Try.ntmps23 rfl rfl (fun w0 β0 ext hβ => ?_)
  repeat (first | refine js rfl ?_ | (refine jdraw ?_ ?_; · kernel_rfl) | refine jbu rfl rfl rfl rfl ?_)
  refine jad 6 28 2 rfl rfl rfl rfl ?_
  refine jloop (ι := Nat × List Pair × List Reply × Nat) 1 (fun x => x.1 ≤ l.length ∧ right x.2.1 = true ∧ x.2.2.1.length = x.1 ∧ (runS m l).1 = (runS x.2.1 (l.drop x.1)).1 ∧ (runS m l).2 = x.2.2.1 ++ (runS x.2.1 (l.drop x.1)).2)
    [12, 13, 14, 0, 6] (fun x => [.sl (l.map encC), .v (.int .i64 l.length), .v (.int .i64 x.1), .sl (x.2.1.map encP), .arr 0 x.2.2.2]) (fun x => [.arr x.2.2.2 28 2 (x.2.2.1.map encR)]) (fun x => l.length - x.1) (0, m, [], 1) (by rw [hβ]; decide)
    ⟨by simp, hm, rfl, rfl, rfl⟩ (by simp only [List.length_map]; rfl) rfl ?_
  rintro ⟨i, n, out, g⟩ ⟨hi, hn, ho, hs1, hs2⟩
  dsimp only at hi hn ho hs1 hs2
  repeat (first | refine js rfl ?_ | (refine jdraw ?_ ?_; · kernel_rfl) | refine jbu rfl rfl rfl rfl ?_)
  refine jc rfl rfl rfl (fun h => ?_) (fun h => ?_)
  · have h := of_decide_eq_true h
    dsimp only at h
    have hi1 : i < l.length := by omega
    have w1 := idx_next hi1 (by omega)
    have hb : may (at' l (i : Int)) = true := by rw [at_nat l i hi1]; exact List.all_eq_true.1 ha _ (List.getElem_mem hi1)
    have hdo := rdo_ok n (at' l (i : Int)) (by have := right_len hn; omega)
    rw [← do_eq hn hb] at hdo
    have hn2 := do_right hn hb
    repeat (first | refine js rfl ?_ | (refine jdraw ?_ ?_; · kernel_rfl) | refine jbu rfl rfl rfl rfl ?_)
    refine jo rfl rfl (index_at rfl rfl rfl rfl rfl rfl rfl rfl (by dsimp only; omega) (by dsimp only; omega)) rfl rfl ?_
    rw [List.drop_eq_getElem_cons hi1, ← at_nat l i hi1] at hs1 hs2
    repeat (first | refine js rfl ?_ | (refine jdraw ?_ ?_; · kernel_rfl) | refine jbu rfl rfl rfl rfl ?_ | refine jv hdo rfl rfl rfl rfl rfl ?_)
    refine jo rfl rfl (append_enc (enc := encR) (doS n (at' l (i : Int))).2 rfl rfl rfl rfl rfl rfl rfl rfl rfl rfl (fun _ => ⟨rfl, rfl⟩) rfl (by dsimp only; omega) rfl rfl) rfl rfl ?_
    repeat (first | refine js rfl ?_ | (refine jdraw ?_ ?_; · kernel_rfl) | refine jbu rfl rfl rfl rfl ?_)
    exact jnext (i + 1, (doS n (at' l (i : Int))).1, out ++ [(doS n (at' l (i : Int))).2], g + 1) ⟨hi1, hn2, by simp [ho], hs1, by rw [hs2]; simp [runS]⟩ (by dsimp only; omega) rfl rfl rfl (by rw [w1]) rfl
  · have h := of_decide_eq_false h
    dsimp only at h
    have hi2 : i = l.length := by omega
    subst hi2
    rw [List.drop_length] at hs1 hs2
    rw [show (runS m l).1 = n from hs1, show (runS m l).2 = out by rw [hs2]; simp [runS]]
    refine jpub 6 rfl rfl rfl rfl ?_
    repeat (first | refine js rfl ?_ | (refine jdraw ?_ ?_; · kernel_rfl) | refine jbu rfl rfl rfl rfl ?_)
    exact jr rfl rfl rfl rfl

instance : Inhabited Reply := ⟨⟨0, 0⟩⟩
theorem replies_ok (l : List Reply) (hl : l.length ≤ 1000) : ACalls Try.prog 24 [.sl (l.map encR), .sl (l.map encR)] [] (one (.v (.bool true)) []) := by
  refine jcalls Try.func24 rfl (by kernel_rfl) Try.ntmps24 rfl rfl (fun w0 β0 ext hβ => ?_)
  repeat (first | refine js rfl ?_ | (refine jdraw ?_ ?_; · kernel_rfl) | refine jbu rfl rfl rfl rfl ?_)
  refine jc rfl rfl rfl (fun h => absurd h (by simp)) (fun h => ?_)
  repeat (first | refine js rfl ?_ | (refine jdraw ?_ ?_; · kernel_rfl) | refine jbu rfl rfl rfl rfl ?_)
  refine jloop (ι := Nat) 0 (fun i => i ≤ l.length) [0, 1, 12, 13] (fun i => [.sl (l.map encR), .sl (l.map encR), .v (.int .i64 l.length), .v (.int .i64 i)]) (fun _ => []) (fun i => l.length - i) 0 (Nat.le_of_eq hβ) (by omega) (by simp only [List.length_map]; rfl) rfl ?_
  intro i hi
  repeat (first | refine js rfl ?_ | (refine jdraw ?_ ?_; · kernel_rfl) | refine jbu rfl rfl rfl rfl ?_)
  refine jc rfl rfl rfl (fun h => ?_) (fun h => ?_)
  · have h := of_decide_eq_true h
    have hi1 : i < l.length := by omega
    have w1 := idx_next hi1 (by omega)
    repeat (first | refine js rfl ?_ | (refine jdraw ?_ ?_; · kernel_rfl) | refine jbu rfl rfl rfl rfl ?_)
    refine jo rfl rfl (index_at rfl rfl rfl rfl rfl rfl rfl rfl (by omega) (by omega)) rfl rfl ?_
    repeat (first | refine js rfl ?_ | (refine jdraw ?_ ?_; · kernel_rfl) | refine jbu rfl rfl rfl rfl ?_)
    refine jo rfl rfl (index_at rfl rfl rfl rfl rfl rfl rfl rfl (by omega) (by omega)) rfl rfl ?_
    repeat (first | refine js rfl ?_ | (refine jdraw ?_ ?_; · kernel_rfl) | refine jbu rfl rfl rfl rfl ?_)
    refine jo rfl rfl (eq_ints (xs := [(at' l (i : Int)).why, (at' l (i : Int)).value]) (ys := [(at' l (i : Int)).why, (at' l (i : Int)).value]) (Or.inr rfl) rfl rfl rfl rfl rfl rfl (by kernel_rfl) (by kernel_rfl)) rfl rfl ?_
    repeat (first | refine js rfl ?_ | (refine jdraw ?_ ?_; · kernel_rfl) | refine jbu rfl rfl rfl rfl ?_)
    refine jc rfl rfl rfl (fun h => absurd h (by simp)) (fun h => ?_)
    repeat (first | refine js rfl ?_ | (refine jdraw ?_ ?_; · kernel_rfl) | refine jbu rfl rfl rfl rfl ?_)
    exact jnext (i + 1) hi1 (by omega) rfl rfl rfl (by rw [w1]) rfl
  · repeat (first | refine js rfl ?_ | (refine jdraw ?_ ?_; · kernel_rfl) | refine jbu rfl rfl rfl rfl ?_)
    exact jr rfl rfl rfl rfl
def raccA (m : List Pair) (c : Call) (r : Reply) : List Pair × Bool := if sameR r (rdoS m c).2 then ((rdoS m c).1, true) else if (c.kind = 1 ∨ c.kind = 7 ∨ (c.kind = 2 ∧ (valR m c.key).2 = false) ∨ (c.kind = 3 ∧ (valR m c.key).2 = true ∧ (valR m c.key).1 = c.old)) ∧ r.why = 14 ∧ r.value = 0 then (m, true) else ([], false)
theorem racc_ok (m : List Pair) (c : Call) (r : Reply) (hm : m.length ≤ 1000000) : ACalls Try.prog 25 [.sl (m.map encP), encC c, encR r] [] (one (.tup [.sl ((raccA m c r).1.map encP), .v (.bool (raccA m c r).2)]) []) := by
  have hd := rdo_ok m c hm
  have hv := value_ok m c.key hm
  unfold raccA
  generalize rdoS m c = q at hd
  obtain ⟨n, w, v⟩ := q
  obtain ⟨rw, rv⟩ := r
  generalize valR m c.key = z at hv
  obtain ⟨z, is⟩ := z
  refine jcalls Try.func25 rfl (by kernel_rfl) Try.ntmps25 rfl rfl (fun w0 β0 ext hβ => ?_)
  repeat (first | refine js rfl ?_ | (refine jdraw ?_ ?_; · kernel_rfl) | refine jbu rfl rfl rfl rfl ?_ | refine jv hd rfl rfl rfl rfl rfl ?_)
  refine jo rfl rfl (eq_ints (xs := [rw, rv]) (ys := [w, v]) (Or.inl rfl) rfl rfl rfl rfl rfl rfl (by kernel_rfl) (by kernel_rfl)) rfl rfl ?_
  repeat (first | refine js rfl ?_ | (refine jdraw ?_ ?_; · kernel_rfl) | refine jbu rfl rfl rfl rfl ?_)
  refine jc rfl rfl rfl (fun h => ?_) (fun h => ?_)
  · repeat (first | refine js rfl ?_ | (refine jdraw ?_ ?_; · kernel_rfl) | refine jbu rfl rfl rfl rfl ?_)
    have h : sameR ⟨rw, rv⟩ ⟨w, v⟩ = true := h
    rw [h]
    exact jr rfl rfl rfl rfl
  have h : sameR ⟨rw, rv⟩ ⟨w, v⟩ = false := h
  rw [h]
  cases is
  · repeat' (first | refine js rfl ?_ | (refine jdraw ?_ ?_; · kernel_rfl) | refine jbu rfl rfl rfl rfl ?_ | refine jv hv rfl rfl rfl rfl rfl ?_ | refine jo rfl rfl (index_at rfl rfl rfl rfl rfl rfl rfl rfl (by omega) (by omega)) rfl rfl ?_ | (refine jc rfl rfl rfl (fun h => ?_) (fun h => ?_) <;> (try simp only [decide_eq_true_eq, decide_eq_false_iff_not, beq_iff_eq, beq_eq_false_iff_ne, bne_iff_ne, bne_eq_false_iff_eq, ne_eq] at h) <;> (try (exfalso; omega))) | (refine jg rfl rfl rfl rfl (fun h => ?_) (fun h => ?_) <;> (fail_if_success (exact absurd h (by decide))) <;> (try simp only [decide_eq_true_eq, decide_eq_false_iff_not, beq_iff_eq, beq_eq_false_iff_ne, bne_iff_ne, bne_eq_false_iff_eq, ne_eq] at h) <;> (try (exfalso; omega))))
    all_goals refine jr rfl rfl ?_ rfl
    all_goals simp_all
  · repeat' (first | refine js rfl ?_ | (refine jdraw ?_ ?_; · kernel_rfl) | refine jbu rfl rfl rfl rfl ?_ | refine jv hv rfl rfl rfl rfl rfl ?_ | refine jo rfl rfl (index_at rfl rfl rfl rfl rfl rfl rfl rfl (by omega) (by omega)) rfl rfl ?_ | (refine jc rfl rfl rfl (fun h => ?_) (fun h => ?_) <;> (try simp only [decide_eq_true_eq, decide_eq_false_iff_not, beq_iff_eq, beq_eq_false_iff_ne, bne_iff_ne, bne_eq_false_iff_eq, ne_eq] at h) <;> (try (exfalso; omega))) | (refine jg rfl rfl rfl rfl (fun h => ?_) (fun h => ?_) <;> (fail_if_success (exact absurd h (by decide))) <;> (try simp only [decide_eq_true_eq, decide_eq_false_iff_not, beq_iff_eq, beq_eq_false_iff_ne, bne_iff_ne, bne_eq_false_iff_eq, ne_eq] at h) <;> (try (exfalso; omega))))
    all_goals refine jr rfl rfl ?_ rfl
    all_goals simp_all
end Go.AL
