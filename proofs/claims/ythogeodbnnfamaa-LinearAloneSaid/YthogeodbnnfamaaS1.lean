/-
  Calls of the package atomic: whether pairs are a map. No conditions.
-/
import Derived.Test.YthogeodbnnfamaaTy
import Derived.Test.YthogeodbnnfamaaL3
set_option linter.unusedVariables false
set_option linter.unusedSimpArgs false
namespace Go.AL
open Go Go.Proofs

structure Pair where
  key : Int
  value : Int
def encP (p : Pair) : AVal := .agg [.v (.int .i64 p.key), .v (.int .i64 p.value)]
theorem elemsP (l : List Pair) : ElemsOk 2 (l.map encP) := elems_map _ fun _ => ⟨rfl, rfl⟩

/-- rising keys from a place on -/
def risesFrom (m : List Pair) : Nat → Nat → Bool
  | 0, _ => true
  | d + 1, i => match m[i - 1]?, m[i]? with
    | some a, some b => if a.key ≥ b.key then false else risesFrom m d (i + 1)
    | _, _ => true
def right (m : List Pair) : Bool := risesFrom m (m.length - 1) 1 && decide (m.length ≤ 12)

theorem right_ok (m : List Pair) (hm : m.length ≤ 1000000) : ACalls Try.prog 13 [.sl (m.map encP)] [] (one (.v (.bool (right m))) []) := by
  refine acalls_intro Try.func13 rfl (by kernel_rfl) Try.ntmps13 rfl rfl (fun w0 β0 ext hβ => ?_)
  repeat (first
    | refine awl_p rfl rfl rfl ?_
    | refine awd_p rfl rfl rfl ?_
    | refine awl_nil ?_
    | refine awd_nil ?_
    | refine aw_seq ?_
    | refine aw_reg ?_
    | (refine aw_draw ?_ ?_; · kernel_rfl)
    | refine awl_load rfl rfl rfl ?_
    | refine awd_load rfl rfl rfl ?_
    | refine awd_loadp rfl rfl rfl ?_
    | refine awl_alloc rfl rfl rfl rfl ?_
    | refine awd_alloc rfl rfl rfl rfl ?_
    | refine awl_store rfl rfl ?_
    | refine awd_store rfl rfl ?_
    | refine awl_build rfl rfl rfl ?_
    | refine awd_build rfl rfl rfl ?_
    | refine aw_block ?_
    | refine aw_skip ?_
    | refine aw_exit ?_
    | refine aw_ret ?_
    | refine aw_cond_t rfl ?_
    | refine aw_cond_f rfl ?_
    | refine awl_skip rfl rfl ?_
    | refine awd_skip rfl rfl ?_
    | refine bodyQ_ret [] true rfl rfl rfl ?_)
  refine aw_loop (ι := { k : Nat // 1 ≤ k ∧ risesFrom m (m.length - 1) 1 = risesFrom m (m.length - k) k }) [0, 3] (fun k => [.sl (m.map encP), .v (.int .i64 k.1)]) (fun _ => []) (fun k => m.length - k.1) ⟨1, by omega, rfl⟩ rfl rfl ?_
  rintro ⟨k, hk, hr⟩
  repeat (first
    | refine awl_p rfl rfl rfl ?_
    | refine awd_p rfl rfl rfl ?_
    | refine awl_nil ?_
    | refine awd_nil ?_
    | refine aw_seq ?_
    | refine aw_reg ?_
    | (refine aw_draw ?_ ?_; · kernel_rfl)
    | refine awl_load rfl rfl rfl ?_
    | refine awd_load rfl rfl rfl ?_
    | refine awd_loadp rfl rfl rfl ?_
    | refine awl_alloc rfl rfl rfl rfl ?_
    | refine awd_alloc rfl rfl rfl rfl ?_
    | refine awl_store rfl rfl ?_
    | refine awd_store rfl rfl ?_
    | refine awl_build rfl rfl rfl ?_
    | refine awd_build rfl rfl rfl ?_
    | refine aw_block ?_
    | refine aw_skip ?_
    | refine aw_exit ?_
    | refine aw_ret ?_
    | refine aw_cond_t rfl ?_
    | refine aw_cond_f rfl ?_
    | refine awl_skip rfl rfl ?_
    | refine awd_skip rfl rfl ?_
    | refine bodyQ_ret [] true rfl rfl rfl ?_)
  simp only [List.length_map]
  refine aw_cond rfl (fun h => ?_) (fun h => ?_)
  · have h := of_decide_eq_true h
    have hk1 : k < m.length := by omega
    repeat (first
      | refine awl_p rfl rfl rfl ?_
      | refine awd_p rfl rfl rfl ?_
      | refine awl_nil ?_
      | refine awd_nil ?_
      | refine aw_seq ?_
      | refine aw_reg ?_
      | (refine aw_draw ?_ ?_; · kernel_rfl)
      | refine awl_load rfl rfl rfl ?_
      | refine awd_load rfl rfl rfl ?_
      | refine awd_loadp rfl rfl rfl ?_
      | refine awl_alloc rfl rfl rfl rfl ?_
      | refine awd_alloc rfl rfl rfl rfl ?_
      | refine awl_store rfl rfl ?_
      | refine awd_store rfl rfl ?_
      | refine awl_build rfl rfl rfl ?_
      | refine awd_build rfl rfl rfl ?_
      | refine aw_block ?_
      | refine aw_skip ?_
      | refine aw_exit ?_
      | refine aw_ret ?_
      | refine aw_cond_t rfl ?_
      | refine aw_cond_f rfl ?_
      | refine awl_skip rfl rfl ?_
      | refine awd_skip rfl rfl ?_
      | refine bodyQ_ret [] true rfl rfl rfl ?_)
    simp (disch := omega) only [wrap_id]
    refine awd_d rfl rfl (index_map (y := m[k - 1]) rfl rfl rfl rfl rfl rfl (by omega) (by rw [List.getElem?_eq_getElem (by omega)]; congr 2; omega) rfl rfl) ?_
    repeat (first
      | refine awl_p rfl rfl rfl ?_
      | refine awd_p rfl rfl rfl ?_
      | refine awl_nil ?_
      | refine awd_nil ?_
      | refine aw_seq ?_
      | refine aw_reg ?_
      | (refine aw_draw ?_ ?_; · kernel_rfl)
      | refine awl_load rfl rfl rfl ?_
      | refine awd_load rfl rfl rfl ?_
      | refine awd_loadp rfl rfl rfl ?_
      | refine awl_alloc rfl rfl rfl rfl ?_
      | refine awd_alloc rfl rfl rfl rfl ?_
      | refine awl_store rfl rfl ?_
      | refine awd_store rfl rfl ?_
      | refine awl_build rfl rfl rfl ?_
      | refine awd_build rfl rfl rfl ?_
      | refine aw_block ?_
      | refine aw_skip ?_
      | refine aw_exit ?_
      | refine aw_ret ?_
      | refine aw_cond_t rfl ?_
      | refine aw_cond_f rfl ?_
      | refine awl_skip rfl rfl ?_
      | refine awd_skip rfl rfl ?_
      | refine bodyQ_ret [] true rfl rfl rfl ?_)
    refine awd_d rfl rfl (index_map (y := m[k]) rfl rfl rfl rfl rfl rfl (by omega) (by rw [List.getElem?_eq_getElem (by omega)]; congr 2) rfl rfl) ?_
    repeat (first
      | refine awl_p rfl rfl rfl ?_
      | refine awd_p rfl rfl rfl ?_
      | refine awl_nil ?_
      | refine awd_nil ?_
      | refine aw_seq ?_
      | refine aw_reg ?_
      | (refine aw_draw ?_ ?_; · kernel_rfl)
      | refine awl_load rfl rfl rfl ?_
      | refine awd_load rfl rfl rfl ?_
      | refine awd_loadp rfl rfl rfl ?_
      | refine awl_alloc rfl rfl rfl rfl ?_
      | refine awd_alloc rfl rfl rfl rfl ?_
      | refine awl_store rfl rfl ?_
      | refine awd_store rfl rfl ?_
      | refine awl_build rfl rfl rfl ?_
      | refine awd_build rfl rfl rfl ?_
      | refine aw_block ?_
      | refine aw_skip ?_
      | refine aw_exit ?_
      | refine aw_ret ?_
      | refine aw_cond_t rfl ?_
      | refine aw_cond_f rfl ?_
      | refine awl_skip rfl rfl ?_
      | refine awd_skip rfl rfl ?_
      | refine bodyQ_ret [] true rfl rfl rfl ?_)
    have hd : m.length - k = (m.length - (k + 1)) + 1 := by omega
    have hr2 : risesFrom m (m.length - k) k = if m[k - 1].key ≥ m[k].key then false else risesFrom m (m.length - (k + 1)) (k + 1) := by
      rw [hd]
      simp only [risesFrom, List.getElem?_eq_getElem hk1, List.getElem?_eq_getElem (show k - 1 < m.length by omega)]
    refine aw_cond rfl (fun h => ?_) (fun h => ?_)
    · repeat (first
        | refine awl_p rfl rfl rfl ?_
        | refine awd_p rfl rfl rfl ?_
        | refine awl_nil ?_
        | refine awd_nil ?_
        | refine aw_seq ?_
        | refine aw_reg ?_
        | (refine aw_draw ?_ ?_; · kernel_rfl)
        | refine awl_load rfl rfl rfl ?_
        | refine awd_load rfl rfl rfl ?_
        | refine awd_loadp rfl rfl rfl ?_
        | refine awl_alloc rfl rfl rfl rfl ?_
        | refine awd_alloc rfl rfl rfl rfl ?_
        | refine awl_store rfl rfl ?_
        | refine awd_store rfl rfl ?_
        | refine awl_build rfl rfl rfl ?_
        | refine awd_build rfl rfl rfl ?_
        | refine aw_block ?_
        | refine aw_skip ?_
        | refine aw_exit ?_
        | refine aw_ret ?_
        | refine aw_cond_t rfl ?_
        | refine aw_cond_f rfl ?_
        | refine awl_skip rfl rfl ?_
        | refine awd_skip rfl rfl ?_
        | refine bodyQ_ret [] true rfl rfl rfl ?_)
      refine one_ok ?_ rfl
      have h := of_decide_eq_true h
      unfold right
      rw [hr, hr2, if_pos h]; rfl
    · repeat (first
        | refine awl_p rfl rfl rfl ?_
        | refine awd_p rfl rfl rfl ?_
        | refine awl_nil ?_
        | refine awd_nil ?_
        | refine aw_seq ?_
        | refine aw_reg ?_
        | (refine aw_draw ?_ ?_; · kernel_rfl)
        | refine awl_load rfl rfl rfl ?_
        | refine awd_load rfl rfl rfl ?_
        | refine awd_loadp rfl rfl rfl ?_
        | refine awl_alloc rfl rfl rfl rfl ?_
        | refine awd_alloc rfl rfl rfl rfl ?_
        | refine awl_store rfl rfl ?_
        | refine awd_store rfl rfl ?_
        | refine awl_build rfl rfl rfl ?_
        | refine awd_build rfl rfl rfl ?_
        | refine aw_block ?_
        | refine aw_skip ?_
        | refine aw_exit ?_
        | refine aw_ret ?_
        | refine aw_cond_t rfl ?_
        | refine aw_cond_f rfl ?_
        | refine awl_skip rfl rfl ?_
        | refine awd_skip rfl rfl ?_
        | refine bodyQ_ret [] true rfl rfl rfl ?_)
      have h := of_decide_eq_false h
      refine ⟨⟨k + 1, by omega, by rw [hr, hr2, if_neg h]⟩, ?_, rfl, by show _ - (k + 1) < _; omega⟩
      simp (disch := omega) only [wrap_id]
      rfl
  · repeat (first
      | refine awl_p rfl rfl rfl ?_
      | refine awd_p rfl rfl rfl ?_
      | refine awl_nil ?_
      | refine awd_nil ?_
      | refine aw_seq ?_
      | refine aw_reg ?_
      | (refine aw_draw ?_ ?_; · kernel_rfl)
      | refine awl_load rfl rfl rfl ?_
      | refine awd_load rfl rfl rfl ?_
      | refine awd_loadp rfl rfl rfl ?_
      | refine awl_alloc rfl rfl rfl rfl ?_
      | refine awd_alloc rfl rfl rfl rfl ?_
      | refine awl_store rfl rfl ?_
      | refine awd_store rfl rfl ?_
      | refine awl_build rfl rfl rfl ?_
      | refine awd_build rfl rfl rfl ?_
      | refine aw_block ?_
      | refine aw_skip ?_
      | refine aw_exit ?_
      | refine aw_ret ?_
      | refine aw_cond_t rfl ?_
      | refine aw_cond_f rfl ?_
      | refine awl_skip rfl rfl ?_
      | refine awd_skip rfl rfl ?_
      | refine bodyQ_ret [] true rfl rfl rfl ?_)
    refine one_ok ?_ rfl
    have h := of_decide_eq_false h
    unfold right
    rw [hr, show m.length - k = 0 by omega]
    simp [risesFrom]
    omega

def inB (n low high : Int) : Bool := decide (low ≤ n) && decide (n ≤ high)

theorem in_ok (n low high : Int) : ACalls Try.prog 37 [.v (.int .i64 n), .v (.int .i64 low), .v (.int .i64 high)] [] (one (.v (.bool (inB n low high))) []) := by
  refine acalls_intro Try.func37 rfl (by kernel_rfl) Try.ntmps37 rfl rfl (fun w0 β0 ext hβ => ?_)
  repeat (first
    | refine awl_p rfl rfl rfl ?_
    | refine awd_p rfl rfl rfl ?_
    | refine awl_nil ?_
    | refine awd_nil ?_
    | refine aw_seq ?_
    | refine aw_reg ?_
    | (refine aw_draw ?_ ?_; · kernel_rfl)
    | refine awl_load rfl rfl rfl ?_
    | refine awd_load rfl rfl rfl ?_
    | refine awd_loadp rfl rfl rfl ?_
    | refine awl_alloc rfl rfl rfl rfl ?_
    | refine awd_alloc rfl rfl rfl rfl ?_
    | refine awl_store rfl rfl ?_
    | refine awd_store rfl rfl ?_
    | refine awl_build rfl rfl rfl ?_
    | refine awd_build rfl rfl rfl ?_
    | refine aw_block ?_
    | refine aw_skip ?_
    | refine aw_exit ?_
    | refine aw_ret ?_
    | refine aw_cond_t rfl ?_
    | refine aw_cond_f rfl ?_
    | refine awl_skip rfl rfl ?_
    | refine awd_skip rfl rfl ?_
    | refine bodyQ_ret [] true rfl rfl rfl ?_)
  cases h : decide (n ≥ low)
  · repeat (first
      | refine awl_p rfl rfl rfl ?_
      | refine awd_p rfl rfl rfl ?_
      | refine awl_nil ?_
      | refine awd_nil ?_
      | refine aw_seq ?_
      | refine aw_reg ?_
      | (refine aw_draw ?_ ?_; · kernel_rfl)
      | refine awl_load rfl rfl rfl ?_
      | refine awd_load rfl rfl rfl ?_
      | refine awd_loadp rfl rfl rfl ?_
      | refine awl_alloc rfl rfl rfl rfl ?_
      | refine awd_alloc rfl rfl rfl rfl ?_
      | refine awl_store rfl rfl ?_
      | refine awd_store rfl rfl ?_
      | refine awl_build rfl rfl rfl ?_
      | refine awd_build rfl rfl rfl ?_
      | refine aw_block ?_
      | refine aw_skip ?_
      | refine aw_exit ?_
      | refine aw_ret ?_
      | refine aw_cond_t rfl ?_
      | refine aw_cond_f rfl ?_
      | refine awl_skip rfl rfl ?_
      | refine awd_skip rfl rfl ?_
      | refine bodyQ_ret [] true rfl rfl rfl ?_)
    refine one_ok ?_ rfl
    have h := of_decide_eq_false h
    simp [inB, h]
  · repeat (first
      | refine awl_p rfl rfl rfl ?_
      | refine awd_p rfl rfl rfl ?_
      | refine awl_nil ?_
      | refine awd_nil ?_
      | refine aw_seq ?_
      | refine aw_reg ?_
      | (refine aw_draw ?_ ?_; · kernel_rfl)
      | refine awl_load rfl rfl rfl ?_
      | refine awd_load rfl rfl rfl ?_
      | refine awd_loadp rfl rfl rfl ?_
      | refine awl_alloc rfl rfl rfl rfl ?_
      | refine awd_alloc rfl rfl rfl rfl ?_
      | refine awl_store rfl rfl ?_
      | refine awd_store rfl rfl ?_
      | refine awl_build rfl rfl rfl ?_
      | refine awd_build rfl rfl rfl ?_
      | refine aw_block ?_
      | refine aw_skip ?_
      | refine aw_exit ?_
      | refine aw_ret ?_
      | refine aw_cond_t rfl ?_
      | refine aw_cond_f rfl ?_
      | refine awl_skip rfl rfl ?_
      | refine awd_skip rfl rfl ?_
      | refine bodyQ_ret [] true rfl rfl rfl ?_)
    refine one_ok ?_ rfl
    have h := of_decide_eq_true h
    simp [inB, h]

structure Call where
  kind : Int
  key : Int
  value : Int
  old : Int
def encC (c : Call) : AVal := .agg [.v (.int .i64 c.kind), .v (.int .i64 c.key), .v (.int .i64 c.value), .v (.int .i64 c.old)]

def may (c : Call) : Bool :=
  inB c.kind 0 7 && inB c.key (-1000000000) 1000000000 && inB c.value 0 1000000000 && inB c.old 0 1000000000 &&
    (if c.kind = 1 ∨ c.kind = 2 then c.old == 0
     else if c.kind = 3 then true
     else if c.kind = 5 ∨ c.kind = 6 then c.key == 0 && c.value == 0 && c.old == 0
     else if c.kind = 7 then c.key != 2 && inB c.key 0 3 && c.value == 0 && c.old == 0
     else c.value == 0 && c.old == 0)

attribute [local irreducible] inB AWL AWD AW
set_option maxHeartbeats 4000000 in
theorem may_ok (c : Call) : ACalls Try.prog 15 [encC c] [] (one (.v (.bool (may c))) []) := by
  refine acalls_intro Try.func15 rfl (by kernel_rfl) Try.ntmps15 rfl rfl (fun w0 β0 ext hβ => ?_)
  repeat' (first
    | refine one_ok ?_ rfl
    | refine awl_p rfl rfl rfl ?_
    | refine awd_p rfl rfl rfl ?_
    | refine awl_nil ?_
    | refine awd_nil ?_
    | refine aw_seq ?_
    | refine aw_reg ?_
    | (refine aw_draw ?_ ?_; · kernel_rfl)
    | refine awl_load rfl rfl rfl ?_
    | refine awd_load rfl rfl rfl ?_
    | refine awd_loadp rfl rfl rfl ?_
    | refine awl_alloc rfl rfl rfl rfl ?_
    | refine awd_alloc rfl rfl rfl rfl ?_
    | refine awl_store rfl rfl ?_
    | refine awd_store rfl rfl ?_
    | refine awl_build rfl rfl rfl ?_
    | refine awd_build rfl rfl rfl ?_
    | refine aw_block ?_
    | refine aw_skip ?_
    | refine aw_exit ?_
    | refine aw_ret ?_
    | refine aw_cond_t rfl ?_
    | refine aw_cond_f rfl ?_
    | refine awl_skip rfl rfl ?_
    | refine awd_skip rfl rfl ?_
    | refine awl_d rfl rfl (call_val rfl rfl (in_ok ..) rfl (fun _ => rfl) (fun _ => rfl)) ?_
    | refine awd_d rfl rfl (call_val rfl rfl (in_ok ..) rfl (fun _ => rfl) (fun _ => rfl)) ?_
    | (refine awl_g rfl rfl (fun h => ?_) (fun h => ?_) <;> (try simp only [decide_eq_true_eq, decide_eq_false_iff_not, beq_iff_eq, beq_eq_false_iff_ne, bne_iff_ne, bne_eq_false_iff_eq, ne_eq] at h) <;> (try (exfalso; omega)))
    | (refine awd_g rfl rfl (fun h => ?_) (fun h => ?_) <;> (try simp only [decide_eq_true_eq, decide_eq_false_iff_not, beq_iff_eq, beq_eq_false_iff_ne, bne_iff_ne, bne_eq_false_iff_eq, ne_eq] at h) <;> (try (exfalso; omega)))
    | (refine aw_condS rfl (fun h => ?_) (fun h => ?_) <;> (try simp only [decide_eq_true_eq, decide_eq_false_iff_not, beq_iff_eq, beq_eq_false_iff_ne, bne_iff_ne, bne_eq_false_iff_eq, ne_eq] at h) <;> (try (exfalso; omega)))
    | refine awl_d rfl rfl (index_at rfl rfl rfl rfl rfl rfl rfl rfl (by omega) (by omega)) ?_
    | refine awd_d rfl rfl (index_at rfl rfl rfl rfl rfl rfl rfl rfl (by omega) (by omega)) ?_
    | refine bodyQ_ret [] true rfl rfl rfl ?_)
  all_goals try refine congrArg (fun b => AVal.v (.bool b)) ?_
  all_goals try (simp_all [may]; done)
  all_goals try (
    refine awl_d rfl rfl (eq_ints (xs := [c.kind, c.key, c.value, c.old]) (ys := [c.kind, 0, 0, 0]) (Or.inl rfl) rfl rfl rfl rfl rfl rfl (by kernel_rfl) (by kernel_rfl)) ?_
    repeat (first
      | refine awl_p rfl rfl rfl ?_
      | refine awd_p rfl rfl rfl ?_
      | refine awl_nil ?_
      | refine awd_nil ?_
      | refine aw_seq ?_
      | refine aw_reg ?_
      | (refine aw_draw ?_ ?_; · kernel_rfl)
      | refine awl_load rfl rfl rfl ?_
      | refine awd_load rfl rfl rfl ?_
      | refine awd_loadp rfl rfl rfl ?_
      | refine awl_alloc rfl rfl rfl rfl ?_
      | refine awd_alloc rfl rfl rfl rfl ?_
      | refine awl_store rfl rfl ?_
      | refine awd_store rfl rfl ?_
      | refine awl_build rfl rfl rfl ?_
      | refine awd_build rfl rfl rfl ?_
      | refine aw_block ?_
      | refine aw_skip ?_
      | refine aw_exit ?_
      | refine aw_ret ?_
      | refine aw_cond_t rfl ?_
      | refine aw_cond_f rfl ?_
      | refine awl_skip rfl rfl ?_
      | refine awd_skip rfl rfl ?_
      | refine bodyQ_ret [] true rfl rfl rfl ?_)
    refine one_ok (congrArg (fun b => AVal.v (.bool b)) ?_) rfl
    simp_all [may]
    grind)


end Go.AL
