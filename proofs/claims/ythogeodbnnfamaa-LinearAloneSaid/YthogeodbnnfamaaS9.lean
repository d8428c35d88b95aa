/-
  The reference's answer to a call; whether two maps are the same. No conditions.
-/
import Derived.Test.YthogeodbnnfamaaS8
set_option linter.unusedVariables false
set_option linter.unusedSimpArgs false
set_option maxRecDepth 100000
namespace Go.AL
open Go Go.Proofs
attribute [local irreducible] AWL AWD AW inB

def rdoB (m : List Pair) (c : Call) (v : Int) (is : Bool) : List Pair × Reply :=
  if c.kind = 5 then (m, ⟨0, m.length⟩) else if c.kind > 5 then (m, ⟨0, 0⟩)
  else if c.kind = 1 ∨ (c.kind = 2 ∧ is = false) ∨ (c.kind = 3 ∧ is = true ∧ v = c.old) then rputS m c.key c.value
  else if is = false then (m, ⟨8, 0⟩) else if c.kind = 0 then (m, ⟨0, v⟩) else if c.kind = 2 then (m, ⟨15, v⟩) else if c.kind = 3 then (m, ⟨16, v⟩)
  else (wo m c.key, ⟨0, v⟩)
def rdoS (m : List Pair) (c : Call) : List Pair × Reply := rdoB m c (valR m c.key).1 (valR m c.key).2

set_option maxHeartbeats 4000000 in
theorem rdo_ok (m : List Pair) (c : Call) (hm : m.length ≤ 1000000) : ACalls Try.prog 18 [.sl (m.map encP), encC c] [] (one (.tup [.sl ((rdoS m c).1.map encP), encR (rdoS m c).2]) []) := by
  have hv := value_ok m c.key hm
  have hw := without_ok m c.key hm
  have hp := rput_ok m c.key c.value hm
  unfold rdoS
  generalize valR m c.key = q at hv
  obtain ⟨v, is⟩ := q
  unfold rdoB
  generalize wo m c.key = W at hw
  generalize rputS m c.key c.value = q at hp
  obtain ⟨kind, key, value, old⟩ := c
  dsimp only at hv hw hp ⊢
  cases is
  · refine acalls_intro Try.func18 rfl (by kernel_rfl) Try.ntmps18 rfl rfl (fun w0 β0 ext hβ => ?_)
    repeat' (first
      | refine one_ok ?_ rfl
      | refine awl_p rfl rfl rfl ?_
      | refine awd_p rfl rfl rfl ?_
      | refine awl_nil ?_
      | refine awd_nil ?_
      | refine aw_seq ?_
      | refine aw_reg ?_
      | (refine aw_draw ?_ ?_; · kernel_rfl)
      | refine awl_load rfl rfl rfl ?_
      | refine awd_load rfl rfl rfl ?_
      | refine awd_loadp rfl rfl rfl ?_
      | refine awl_alloc rfl rfl rfl rfl ?_
      | refine awd_alloc rfl rfl rfl rfl ?_
      | refine awl_store rfl rfl ?_
      | refine awd_store rfl rfl ?_
      | refine awl_build rfl rfl rfl ?_
      | refine awd_build rfl rfl rfl ?_
      | refine aw_block ?_
      | refine aw_skip ?_
      | refine aw_exit ?_
      | refine aw_ret ?_
      | refine aw_cond_t rfl ?_
      | refine aw_cond_f rfl ?_
      | refine awl_skip rfl rfl ?_
      | refine awd_skip rfl rfl ?_
      | refine awl_d rfl rfl (call_val rfl rfl (hv) rfl (fun _ => rfl) (fun _ => rfl)) ?_
      | refine awd_d rfl rfl (call_val rfl rfl (hv) rfl (fun _ => rfl) (fun _ => rfl)) ?_
      | refine awl_d rfl rfl (call_val rfl rfl (hw) rfl (fun _ => rfl) (fun _ => rfl)) ?_
      | refine awd_d rfl rfl (call_val rfl rfl (hw) rfl (fun _ => rfl) (fun _ => rfl)) ?_
      | refine awl_d rfl rfl (call_val rfl rfl (hp) rfl (fun _ => rfl) (fun _ => rfl)) ?_
      | refine awd_d rfl rfl (call_val rfl rfl (hp) rfl (fun _ => rfl) (fun _ => rfl)) ?_
      | (refine awl_g rfl rfl (fun h => ?_) (fun h => ?_) <;> (try simp only [decide_eq_true_eq, decide_eq_false_iff_not, beq_iff_eq, beq_eq_false_iff_ne, bne_iff_ne, bne_eq_false_iff_eq, ne_eq] at h) <;> (try (exfalso; omega)))
      | (refine awd_g rfl rfl (fun h => ?_) (fun h => ?_) <;> (try simp only [decide_eq_true_eq, decide_eq_false_iff_not, beq_iff_eq, beq_eq_false_iff_ne, bne_iff_ne, bne_eq_false_iff_eq, ne_eq] at h) <;> (try (exfalso; omega)))
      | (refine aw_condS rfl (fun h => ?_) (fun h => ?_) <;> (try simp only [decide_eq_true_eq, decide_eq_false_iff_not, beq_iff_eq, beq_eq_false_iff_ne, bne_iff_ne, bne_eq_false_iff_eq, ne_eq] at h) <;> (try (exfalso; omega)))
      | refine awl_d rfl rfl (index_at rfl rfl rfl rfl rfl rfl rfl rfl (by omega) (by omega)) ?_
      | refine awd_d rfl rfl (index_at rfl rfl rfl rfl rfl rfl rfl rfl (by omega) (by omega)) ?_
      | refine bodyQ_ret [] true rfl rfl rfl ?_)
    all_goals first | (simp_all [encR]; done) | (simp_all [encR]; omega) | grind [encR]
  · refine acalls_intro Try.func18 rfl (by kernel_rfl) Try.ntmps18 rfl rfl (fun w0 β0 ext hβ => ?_)
    repeat' (first
      | refine one_ok ?_ rfl
      | refine awl_p rfl rfl rfl ?_
      | refine awd_p rfl rfl rfl ?_
      | refine awl_nil ?_
      | refine awd_nil ?_
      | refine aw_seq ?_
      | refine aw_reg ?_
      | (refine aw_draw ?_ ?_; · kernel_rfl)
      | refine awl_load rfl rfl rfl ?_
      | refine awd_load rfl rfl rfl ?_
      | refine awd_loadp rfl rfl rfl ?_
      | refine awl_alloc rfl rfl rfl rfl ?_
      | refine awd_alloc rfl rfl rfl rfl ?_
      | refine awl_store rfl rfl ?_
      | refine awd_store rfl rfl ?_
      | refine awl_build rfl rfl rfl ?_
      | refine awd_build rfl rfl rfl ?_
      | refine aw_block ?_
      | refine aw_skip ?_
      | refine aw_exit ?_
      | refine aw_ret ?_
      | refine aw_cond_t rfl ?_
      | refine aw_cond_f rfl ?_
      | refine awl_skip rfl rfl ?_
      | refine awd_skip rfl rfl ?_
      | refine awl_d rfl rfl (call_val rfl rfl (hv) rfl (fun _ => rfl) (fun _ => rfl)) ?_
      | refine awd_d rfl rfl (call_val rfl rfl (hv) rfl (fun _ => rfl) (fun _ => rfl)) ?_
      | refine awl_d rfl rfl (call_val rfl rfl (hw) rfl (fun _ => rfl) (fun _ => rfl)) ?_
      | refine awd_d rfl rfl (call_val rfl rfl (hw) rfl (fun _ => rfl) (fun _ => rfl)) ?_
      | refine awl_d rfl rfl (call_val rfl rfl (hp) rfl (fun _ => rfl) (fun _ => rfl)) ?_
      | refine awd_d rfl rfl (call_val rfl rfl (hp) rfl (fun _ => rfl) (fun _ => rfl)) ?_
      | (refine awl_g rfl rfl (fun h => ?_) (fun h => ?_) <;> (try simp only [decide_eq_true_eq, decide_eq_false_iff_not, beq_iff_eq, beq_eq_false_iff_ne, bne_iff_ne, bne_eq_false_iff_eq, ne_eq] at h) <;> (try (exfalso; omega)))
      | (refine awd_g rfl rfl (fun h => ?_) (fun h => ?_) <;> (try simp only [decide_eq_true_eq, decide_eq_false_iff_not, beq_iff_eq, beq_eq_false_iff_ne, bne_iff_ne, bne_eq_false_iff_eq, ne_eq] at h) <;> (try (exfalso; omega)))
      | (refine aw_condS rfl (fun h => ?_) (fun h => ?_) <;> (try simp only [decide_eq_true_eq, decide_eq_false_iff_not, beq_iff_eq, beq_eq_false_iff_ne, bne_iff_ne, bne_eq_false_iff_eq, ne_eq] at h) <;> (try (exfalso; omega)))
      | refine awl_d rfl rfl (index_at rfl rfl rfl rfl rfl rfl rfl rfl (by omega) (by omega)) ?_
      | refine awd_d rfl rfl (index_at rfl rfl rfl rfl rfl rfl rfl rfl (by omega) (by omega)) ?_
      | refine bodyQ_ret [] true rfl rfl rfl ?_)
    all_goals first | (simp_all [encR]; done) | (simp_all [encR]; omega) | grind [encR]
end Go.AL
