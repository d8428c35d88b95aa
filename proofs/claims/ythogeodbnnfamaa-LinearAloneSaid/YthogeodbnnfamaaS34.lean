/-
  What comes next, what a row leads to, and the search. No conditions.
-/
import Derived.Test.YthogeodbnnfamaaS33
import Derived.Test.YthogeodbnnfamaaL6
set_option linter.unusedVariables false
set_option linter.unusedSimpArgs false
set_option maxRecDepth 100000
namespace Go.AL
open Go Go.Proofs
attribute [local irreducible] J inB right may

def lookF (l : List Span) : List AVal := lookC l.length (spanAt l) (aheadL l l.length) (mustM l l.length)
def Bits (d : BitVec 64) (row : List Int) : Prop := ∀ i : Nat, i < 64 → d.getLsbD i = row.contains (i : Int)
theorem and_bit {d : BitVec 64} {n : Nat} (hn : n < 64) : (d &&& 1#64 <<< n ≠ 0) ↔ d.getLsbD n = true := by
  constructor
  · intro h
    cases hb : d.getLsbD n
    · exfalso; apply h
      refine BitVec.eq_of_getLsbD_eq fun i hi => ?_
      rw [BitVec.getLsbD_and, shl_bit hi]
      by_cases h2 : i = n
      · subst h2; rw [hb]; simp
      · simp [h2]
    · rfl
  · intro h e
    have := congrArg (fun x : BitVec 64 => x.getLsbD n) e
    simp only [BitVec.getLsbD_and, shl_bit hn, h] at this
    simp at this
theorem andNot_zero {a d : BitVec 64} : (a &&& ~~~d = 0) ↔ ∀ i, i < 64 → a.getLsbD i = true → d.getLsbD i = true := by
  constructor
  · intro h i hi ha
    have := congrArg (fun x : BitVec 64 => x.getLsbD i) h
    simp only [BitVec.getLsbD_and, BitVec.getLsbD_not, ha, hi] at this
    simpa using this
  · intro h
    refine BitVec.eq_of_getLsbD_eq fun i hi => ?_
    have := h i hi
    rw [BitVec.getLsbD_and, BitVec.getLsbD_not]
    cases h1 : a.getLsbD i
    · simp
    · rw [this h1]; simp
theorem Bits.push {d : BitVec 64} {row : List Int} (h : Bits d row) (n : Nat) : Bits (d ||| 1#64 <<< n) (row ++ [(n : Int)]) := fun i hi => by
  rw [BitVec.getLsbD_or, shl_bit hi, h i hi]
  simp only [List.contains_eq_mem, List.mem_append, List.mem_singleton]
  by_cases h2 : i = n
  · subst h2; simp
  · have : ¬ (i : Int) = n := by omega
    simp [h2, this]
theorem whole_bits {l : List Span} (hl : l.length ≤ 8) {d : BitVec 64} {row : List Int} (h : Bits d row) : wholeB l row = decide (mustM l l.length &&& ~~~d = 0) := by
  rw [Bool.eq_iff_iff, decide_eq_true_iff, andNot_zero]
  unfold wholeB
  rw [allN_iff]
  constructor
  · intro hw i hi hm
    rw [show mustM l l.length = mask (fun i => decide ((at' l (i : Int)).to ≥ 0)) l.length from rfl, mask_bit _ hi] at hm
    simp only [Bool.and_eq_true, decide_eq_true_eq] at hm
    have := hw i hm.1
    unfold wholeP at this
    rw [h i hi]
    cases hc : row.contains (i : Int)
    · rw [hc] at this; simp [hm.2] at this
    · rfl
  · intro hw i hi
    have := hw i (by omega)
    rw [show mustM l l.length = mask (fun i => decide ((at' l (i : Int)).to ≥ 0)) l.length from rfl, mask_bit _ (by omega)] at this
    simp only [Bool.and_eq_true, decide_eq_true_eq] at this
    unfold wholeP
    by_cases ht : (at' l (i : Int)).to ≥ 0
    · have := this ⟨hi, ht⟩
      rw [h i (by omega)] at this
      rw [this]; simp
    · simp [ht]
theorem free_bits {l : List Span} (hb : l.any badSp = false) (hl : l.length ≤ 8) {d : BitVec 64} {row : List Int} (h : Bits d row) {n : Nat} (hn : n < l.length) :
    freeB l row n = (!d.getLsbD n && decide (aheadM l n l.length &&& ~~~d = 0)) := by
  rw [Bool.eq_iff_iff]
  unfold freeB
  simp only [Bool.and_eq_true, decide_eq_true_eq, andNot_zero, h n (by omega), allN_iff]
  have hself : before (at' l (n : Int)) (at' l (n : Int)) = false := by
    rw [List.any_eq_false] at hb
    have := hb _ (List.getElem_mem hn)
    rw [← at_nat l n hn] at this
    unfold badSp at this
    unfold before
    grind
  have hbit : ∀ i, i < 64 → ((aheadM l n l.length).getLsbD i = true ↔ i < l.length ∧ before (at' l (i : Int)) (at' l (n : Int)) = true) := fun i hi => by
    rw [show aheadM l n l.length = mask (fun j => before (at' l (j : Int)) (at' l (n : Int))) l.length from rfl, mask_bit _ hi]
    simp
  constructor
  · rintro ⟨h1, h2⟩
    refine ⟨h2, fun i hi ha => ?_⟩
    obtain ⟨h3, h4⟩ := (hbit i hi).1 ha
    rw [h i hi]
    have := h1 i h3
    unfold freeP at this
    rw [h4] at this
    have hne : (i : Int) ≠ n := fun e => by
      have : i = n := by omega
      subst this; rw [hself] at h4; cases h4
    simpa [hne] using this
  · rintro ⟨h1, h2⟩
    refine ⟨fun i hi => ?_, h1⟩
    unfold freeP
    cases hbf : before (at' l (i : Int)) (at' l (n : Int))
    · simp
    · have := h2 i (by omega) ((hbit i (by omega)).2 ⟨hi, hbf⟩)
      rw [h i (by omega)] at this
      rw [this]; simp

theorem aheadL_at {l : List Span} {n : Nat} (hn : n < l.length) : aheadL l l.length n = aheadM l n l.length := by unfold aheadL; rw [if_pos hn]
def nextB (l : List Span) (m : List Pair) (row : List Int) (n : Nat) : List Pair × Bool := if freeB l row n then nextS m (at' l (n : Int)) else ([], false)
theorem next_ok (m : List Pair) (l : List Span) (hm : right m = true) (hb : l.any badSp = false) (hl : l.length ≤ 8) (d : BitVec 64) (row : List Int) (hd : Bits d row) (n : Nat) (hn : n < l.length) :
    ACalls Try.prog 45 [.ptr 0 0, .sl (m.map encP), u64A d, .v (.int .i64 n)] [.box 91 (lookF l)] (one (.tup [.sl ((nextB l m row n).1.map encP), .v (.bool (nextB l m row n).2)]) [.box 91 (lookF l)]) := by
  have hms := may_of hb hn
  have hml := right_len hm
  have hdo := Do_ok m (at' l (n : Int)).call (by omega)
  have hac := accept_ok m (at' l (n : Int)).call (at' l (n : Int)).reply (by omega)
  have e1 : doA m (at' l (n : Int)).call = ((doS m (at' l (n : Int)).call).1, (doS m (at' l (n : Int)).call).2, 0) := by simp [doA, hm, hms]
  rw [e1] at hdo
  rw [acc_eq _ hm hms] at hac
  have hfb := free_bits hb hl hd hn
  have hnx : nextB l m row n = if freeB l row n then nextS m (at' l (n : Int)) else ([], false) := rfl
  have hns : nextS m (at' l (n : Int)) = if (at' l (n : Int)).to ≥ 0 then raccA m (at' l (n : Int)).call (at' l (n : Int)).reply else ((doS m (at' l (n : Int)).call).1, true) := rfl
  refine jcalls Try.func45 rfl (by kernel_rfl) Try.ntmps45 rfl rfl (fun w0 β0 ext hβ => ?_)
  repeat (first | refine jo rfl rfl (u64_bit_op rfl rfl (by omega)) rfl rfl ?_ | refine jo rfl rfl (u64_and_op rfl rfl) rfl rfl ?_ | refine js rfl ?_ | (refine jdraw ?_ ?_; · kernel_rfl) | refine jbu rfl rfl rfl rfl ?_)
  refine jg rfl rfl rfl rfl (fun h => ?_) (fun h => ?_)
  · have h := (and_bit (by omega)).1 (u64_ne.1 h)
    rw [hnx, hfb, h, if_neg (by simp)]
    repeat (first | refine js rfl ?_ | (refine jdraw ?_ ?_; · kernel_rfl) | refine jbu rfl rfl rfl rfl ?_)
    exact jr rfl rfl rfl rfl
  have h : d.getLsbD n = false := by
    cases hc : d.getLsbD n
    · rfl
    · have := u64_ne.2 ((and_bit (n := n) (d := d) (by omega)).2 hc)
      rw [this] at h; cases h
  rw [h, Bool.not_false, Bool.true_and] at hfb
  repeat (first | refine js rfl ?_ | (refine jdraw ?_ ?_; · kernel_rfl) | refine jbu rfl rfl rfl rfl ?_)
  refine jo rfl rfl (index_arr rfl rfl rfl rfl rfl (by omega) (by omega)) rfl rfl ?_
  refine jo rfl rfl (load_dsem rfl rfl rfl (look_ahead (n := l.length) (S := spanAt l) (A := aheadL l l.length) (must := mustM l l.length) (i := n) (by omega) (off1_eq n))) rfl rfl ?_
  refine jre 28 (u64A (aheadM l n l.length)) rfl rfl (by rw [aheadL_at hn]) ?_
  repeat (first | refine jo rfl rfl (u64_andNot_op rfl rfl) rfl rfl ?_ | refine js rfl ?_ | (refine jdraw ?_ ?_; · kernel_rfl) | refine jbu rfl rfl rfl rfl ?_)
  refine jc rfl rfl rfl (fun h2 => ?_) (fun h2 => ?_)
  · have h2 := u64_ne.1 h2
    rw [hnx, hfb, decide_eq_false h2, if_neg (by simp)]
    repeat (first | refine js rfl ?_ | (refine jdraw ?_ ?_; · kernel_rfl) | refine jbu rfl rfl rfl rfl ?_)
    exact jr rfl rfl rfl rfl
  have h2 : aheadM l n l.length &&& ~~~d = 0 := by
    by_cases hc : aheadM l n l.length &&& ~~~d = 0
    · exact hc
    · have := u64_ne.2 hc
      rw [this] at h2; cases h2
  rw [hnx, hfb, decide_eq_true h2, if_pos rfl, hns]
  repeat (first | refine js rfl ?_ | (refine jdraw ?_ ?_; · kernel_rfl) | refine jbu rfl rfl rfl rfl ?_)
  refine jo rfl rfl (index_arr rfl rfl rfl rfl rfl (by omega) (by omega)) rfl rfl ?_
  refine jo rfl rfl (load_dsem rfl rfl rfl (look_span (n := l.length) (S := spanAt l) (A := aheadL l l.length) (must := mustM l l.length) (i := n) (by omega) (off2_eq n))) rfl rfl ?_
  repeat (first | refine js rfl ?_ | (refine jdraw ?_ ?_; · kernel_rfl) | refine jbu rfl rfl rfl rfl ?_)
  refine jc rfl rfl rfl (fun h3 => ?_) (fun h3 => ?_)
  · have h3 : (at' l (n : Int)).to < 0 := of_decide_eq_true h3
    rw [if_neg (by omega)]
    repeat (first | refine js rfl ?_ | (refine jdraw ?_ ?_; · kernel_rfl) | refine jbu rfl rfl rfl rfl ?_ | refine jv hdo rfl rfl rfl rfl rfl ?_)
    exact jr rfl rfl rfl rfl
  · have h3 : ¬ (at' l (n : Int)).to < 0 := of_decide_eq_false h3
    rw [if_pos (by omega)]
    repeat (first | refine js rfl ?_ | (refine jdraw ?_ ?_; · kernel_rfl) | refine jbu rfl rfl rfl rfl ?_ | refine jv hac rfl rfl rfl rfl rfl ?_)
    exact jr rfl rfl rfl rfl
end Go.AL
