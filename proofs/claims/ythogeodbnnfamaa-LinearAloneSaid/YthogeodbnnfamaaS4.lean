/-
  The state's methods of the package atomic. No conditions.
-/
import Derived.Test.YthogeodbnnfamaaS3
import Derived.Test.YthogeodbnnfamaaL3
set_option linter.unusedVariables false
set_option linter.unusedSimpArgs false
set_option maxRecDepth 100000
namespace Go.AL
open Go Go.Proofs
attribute [local irreducible] AWL AWD AW inB

structure Reply where
  why : Int
  value : Int
def encR (r : Reply) : AVal := .agg [.v (.int .i64 r.why), .v (.int .i64 r.value)]
theorem has_lt {m : List Pair} {k : Int} (h : has m k = true) : place m k < m.length := by
  unfold has at h; simp at h; exact h.1
theorem has_key {m : List Pair} {k : Int} (h : has m k = true) : (at' m (place m k : Int)).key = k := by
  unfold has at h; simp at h; exact h.2

def getS (m : List Pair) (c : Call) : Reply := if has m c.key then ⟨0, (at' m (place m c.key : Int)).value⟩ else ⟨8, 0⟩
theorem get_ok (m : List Pair) (c : Call) : ACalls Try.prog 54 [.ptr 0 0] [.box 75 (encS m c)] (one (encR (getS m c)) [.box 75 (encS m c)]) := by
  refine acalls_intro Try.func54 rfl (by kernel_rfl) Try.ntmps54 rfl rfl (fun w0 β0 ext hβ => ?_)
  cases hb : has m c.key
  · repeat' (first
      | refine one_ok ?_ rfl
      | refine awl_p rfl rfl rfl ?_
      | refine awd_p rfl rfl rfl ?_
      | refine awl_nil ?_
      | refine awd_nil ?_
      | refine aw_seq ?_
      | refine aw_reg ?_
      | (refine aw_draw ?_ ?_; · kernel_rfl)
      | refine awl_load rfl rfl rfl ?_
      | refine awd_load rfl rfl rfl ?_
      | refine awd_loadp rfl rfl rfl ?_
      | refine awl_alloc rfl rfl rfl rfl ?_
      | refine awd_alloc rfl rfl rfl rfl ?_
      | refine awl_store rfl rfl ?_
      | refine awd_store rfl rfl ?_
      | refine awl_build rfl rfl rfl ?_
      | refine awd_build rfl rfl rfl ?_
      | refine aw_block ?_
      | refine aw_skip ?_
      | refine aw_exit ?_
      | refine aw_ret ?_
      | refine aw_cond_t rfl ?_
      | refine aw_cond_f rfl ?_
      | refine awl_skip rfl rfl ?_
      | refine awd_skip rfl rfl ?_
      | (refine awl_g rfl rfl (fun h => ?_) (fun h => ?_) <;> (try simp only [decide_eq_true_eq, decide_eq_false_iff_not, beq_iff_eq, beq_eq_false_iff_ne, bne_iff_ne, bne_eq_false_iff_eq, ne_eq] at h) <;> (try (exfalso; omega)))
      | (refine awd_g rfl rfl (fun h => ?_) (fun h => ?_) <;> (try simp only [decide_eq_true_eq, decide_eq_false_iff_not, beq_iff_eq, beq_eq_false_iff_ne, bne_iff_ne, bne_eq_false_iff_eq, ne_eq] at h) <;> (try (exfalso; omega)))
      | (refine aw_condS rfl (fun h => ?_) (fun h => ?_) <;> (try simp only [decide_eq_true_eq, decide_eq_false_iff_not, beq_iff_eq, beq_eq_false_iff_ne, bne_iff_ne, bne_eq_false_iff_eq, ne_eq] at h) <;> (try (exfalso; omega)))
      | refine awl_d rfl rfl (index_at rfl rfl rfl rfl rfl rfl rfl rfl (by omega) (by omega)) ?_
      | refine awd_d rfl rfl (index_at rfl rfl rfl rfl rfl rfl rfl rfl (by omega) (by omega)) ?_
      | refine bodyQ_ret [] true rfl rfl rfl ?_)
    all_goals simp_all [getS, encR]
  · have hlt := has_lt hb
    repeat' (first
      | refine one_ok ?_ rfl
      | refine awl_p rfl rfl rfl ?_
      | refine awd_p rfl rfl rfl ?_
      | refine awl_nil ?_
      | refine awd_nil ?_
      | refine aw_seq ?_
      | refine aw_reg ?_
      | (refine aw_draw ?_ ?_; · kernel_rfl)
      | refine awl_load rfl rfl rfl ?_
      | refine awd_load rfl rfl rfl ?_
      | refine awd_loadp rfl rfl rfl ?_
      | refine awl_alloc rfl rfl rfl rfl ?_
      | refine awd_alloc rfl rfl rfl rfl ?_
      | refine awl_store rfl rfl ?_
      | refine awd_store rfl rfl ?_
      | refine awl_build rfl rfl rfl ?_
      | refine awd_build rfl rfl rfl ?_
      | refine aw_block ?_
      | refine aw_skip ?_
      | refine aw_exit ?_
      | refine aw_ret ?_
      | refine aw_cond_t rfl ?_
      | refine aw_cond_f rfl ?_
      | refine awl_skip rfl rfl ?_
      | refine awd_skip rfl rfl ?_
      | (refine awl_g rfl rfl (fun h => ?_) (fun h => ?_) <;> (try simp only [decide_eq_true_eq, decide_eq_false_iff_not, beq_iff_eq, beq_eq_false_iff_ne, bne_iff_ne, bne_eq_false_iff_eq, ne_eq] at h) <;> (try (exfalso; omega)))
      | (refine awd_g rfl rfl (fun h => ?_) (fun h => ?_) <;> (try simp only [decide_eq_true_eq, decide_eq_false_iff_not, beq_iff_eq, beq_eq_false_iff_ne, bne_iff_ne, bne_eq_false_iff_eq, ne_eq] at h) <;> (try (exfalso; omega)))
      | (refine aw_condS rfl (fun h => ?_) (fun h => ?_) <;> (try simp only [decide_eq_true_eq, decide_eq_false_iff_not, beq_iff_eq, beq_eq_false_iff_ne, bne_iff_ne, bne_eq_false_iff_eq, ne_eq] at h) <;> (try (exfalso; omega)))
      | refine awl_d rfl rfl (index_at rfl rfl rfl rfl rfl rfl rfl rfl (by omega) (by omega)) ?_
      | refine awd_d rfl rfl (index_at rfl rfl rfl rfl rfl rfl rfl rfl (by omega) (by omega)) ?_
      | refine bodyQ_ret [] true rfl rfl rfl ?_)
    all_goals simp_all [getS, encR]

theorem count_ok (m : List Pair) (c : Call) : ACalls Try.prog 59 [.ptr 0 0] [.box 75 (encS m c)] (one (encR ⟨0, m.length⟩) [.box 75 (encS m c)]) := by
  refine acalls_intro Try.func59 rfl (by kernel_rfl) Try.ntmps59 rfl rfl (fun w0 β0 ext hβ => ?_)
  repeat (first
    | refine awl_p rfl rfl rfl ?_
    | refine awd_p rfl rfl rfl ?_
    | refine awl_nil ?_
    | refine awd_nil ?_
    | refine aw_seq ?_
    | refine aw_reg ?_
    | (refine aw_draw ?_ ?_; · kernel_rfl)
    | refine awl_load rfl rfl rfl ?_
    | refine awd_load rfl rfl rfl ?_
    | refine awd_loadp rfl rfl rfl ?_
    | refine awl_alloc rfl rfl rfl rfl ?_
    | refine awd_alloc rfl rfl rfl rfl ?_
    | refine awl_store rfl rfl ?_
    | refine awd_store rfl rfl ?_
    | refine awl_build rfl rfl rfl ?_
    | refine awd_build rfl rfl rfl ?_
    | refine aw_block ?_
    | refine aw_skip ?_
    | refine aw_exit ?_
    | refine aw_ret ?_
    | refine aw_cond_t rfl ?_
    | refine aw_cond_f rfl ?_
    | refine awl_skip rfl rfl ?_
    | refine awd_skip rfl rfl ?_
    | refine bodyQ_ret [] true rfl rfl rfl ?_)
  refine one_ok ?_ rfl
  simp [encR]
theorem nothing_ok (m : List Pair) (c : Call) : ACalls Try.prog 60 [.ptr 0 0] [.box 75 (encS m c)] (one (encR ⟨0, 0⟩) [.box 75 (encS m c)]) := by
  refine acalls_intro Try.func60 rfl (by kernel_rfl) Try.ntmps60 rfl rfl (fun w0 β0 ext hβ => ?_)
  repeat (first
    | refine awl_p rfl rfl rfl ?_
    | refine awd_p rfl rfl rfl ?_
    | refine awl_nil ?_
    | refine awd_nil ?_
    | refine aw_seq ?_
    | refine aw_reg ?_
    | (refine aw_draw ?_ ?_; · kernel_rfl)
    | refine awl_load rfl rfl rfl ?_
    | refine awd_load rfl rfl rfl ?_
    | refine awd_loadp rfl rfl rfl ?_
    | refine awl_alloc rfl rfl rfl rfl ?_
    | refine awd_alloc rfl rfl rfl rfl ?_
    | refine awl_store rfl rfl ?_
    | refine awd_store rfl rfl ?_
    | refine awl_build rfl rfl rfl ?_
    | refine awd_build rfl rfl rfl ?_
    | refine aw_block ?_
    | refine aw_skip ?_
    | refine aw_exit ?_
    | refine aw_ret ?_
    | refine aw_cond_t rfl ?_
    | refine aw_cond_f rfl ?_
    | refine awl_skip rfl rfl ?_
    | refine awd_skip rfl rfl ?_
    | refine bodyQ_ret [] true rfl rfl rfl ?_)
  exact one_ok rfl rfl

/-- the state behind a deed -/
def encT (m' m : List Pair) (c : Call) : List AVal := [.sl (m'.map encP), .v (.int .i64 c.kind), .v (.int .i64 c.key), .v (.int .i64 c.value), .v (.int .i64 c.old), .v (.int .i64 (place m c.key)), .v (.bool (has m c.key))]
def putS (m : List Pair) (c : Call) : List Pair × Reply :=
  if has m c.key then (m.set (place m c.key) ⟨c.key, c.value⟩, ⟨0, 0⟩)
  else if m.length = 12 then (m, ⟨14, 0⟩)
  else (insP m (place m c.key) ⟨c.key, c.value⟩, ⟨0, 0⟩)

set_option maxHeartbeats 4000000 in
theorem put_ok (m : List Pair) (c : Call) (hm : m.length ≤ 1000000) : ACalls Try.prog 55 [.ptr 0 0] [.box 75 (encS m c)] (one (encR (putS m c).2) [.box 75 (encT (putS m c).1 m c)]) := by
  by_cases h0 : m = []
  · subst h0
    have hb : has [] c.key = false := rfl
    simp only [encS, encT, putS, hb]
    refine acalls_intro Try.func55 rfl (by kernel_rfl) Try.ntmps55 rfl rfl (fun w0 β0 ext hβ => ?_)
    repeat (first
      | refine awl_p rfl rfl rfl ?_
      | refine awd_p rfl rfl rfl ?_
      | refine awl_nil ?_
      | refine awd_nil ?_
      | refine aw_seq ?_
      | refine aw_reg ?_
      | (refine aw_draw ?_ ?_; · kernel_rfl)
      | refine awl_load rfl rfl rfl ?_
      | refine awd_load rfl rfl rfl ?_
      | refine awd_loadp rfl rfl rfl ?_
      | refine awl_alloc rfl rfl rfl rfl ?_
      | refine awd_alloc rfl rfl rfl rfl ?_
      | refine awl_store rfl rfl ?_
      | refine awd_store rfl rfl ?_
      | refine awl_build rfl rfl rfl ?_
      | refine awd_build rfl rfl rfl ?_
      | refine aw_block ?_
      | refine aw_skip ?_
      | refine aw_exit ?_
      | refine aw_ret ?_
      | refine aw_cond_t rfl ?_
      | refine aw_cond_f rfl ?_
      | refine awl_skip rfl rfl ?_
      | refine awd_skip rfl rfl ?_
      | refine bodyQ_ret [] true rfl rfl rfl ?_)
    refine awl_d rfl rfl (call_val rfl rfl clone_nil rfl (fun _ => rfl) (fun _ => rfl)) ?_
    repeat (first
      | refine awl_p rfl rfl rfl ?_
      | refine awd_p rfl rfl rfl ?_
      | refine awl_nil ?_
      | refine awd_nil ?_
      | refine aw_seq ?_
      | refine aw_reg ?_
      | (refine aw_draw ?_ ?_; · kernel_rfl)
      | refine awl_load rfl rfl rfl ?_
      | refine awd_load rfl rfl rfl ?_
      | refine awd_loadp rfl rfl rfl ?_
      | refine awl_alloc rfl rfl rfl rfl ?_
      | refine awd_alloc rfl rfl rfl rfl ?_
      | refine awl_store rfl rfl ?_
      | refine awd_store rfl rfl ?_
      | refine awl_build rfl rfl rfl ?_
      | refine awd_build rfl rfl rfl ?_
      | refine aw_block ?_
      | refine aw_skip ?_
      | refine aw_exit ?_
      | refine aw_ret ?_
      | refine aw_cond_t rfl ?_
      | refine aw_cond_f rfl ?_
      | refine awl_skip rfl rfl ?_
      | refine awd_skip rfl rfl ?_)
    refine awd_d rfl rfl (call_val rfl rfl (insert_nil ⟨c.key, c.value⟩) rfl (fun _ => rfl) (fun _ => rfl)) ?_
    repeat (first
      | refine awl_p rfl rfl rfl ?_
      | refine awd_p rfl rfl rfl ?_
      | refine awl_nil ?_
      | refine awd_nil ?_
      | refine aw_seq ?_
      | refine aw_reg ?_
      | (refine aw_draw ?_ ?_; · kernel_rfl)
      | refine awl_load rfl rfl rfl ?_
      | refine awd_load rfl rfl rfl ?_
      | refine awd_loadp rfl rfl rfl ?_
      | refine awl_alloc rfl rfl rfl rfl ?_
      | refine awd_alloc rfl rfl rfl rfl ?_
      | refine awl_store rfl rfl ?_
      | refine awd_store rfl rfl ?_
      | refine awl_build rfl rfl rfl ?_
      | refine awd_build rfl rfl rfl ?_
      | refine aw_block ?_
      | refine aw_skip ?_
      | refine aw_exit ?_
      | refine aw_ret ?_
      | refine aw_cond_t rfl ?_
      | refine aw_cond_f rfl ?_
      | refine awl_skip rfl rfl ?_
      | refine awd_skip rfl rfl ?_
      | refine bodyQ_ret [] true rfl rfl rfl ?_)
    exact one_ok rfl rfl
  · cases hb : has m c.key
    · simp only [encS, encT, putS, hb]
      refine acalls_intro Try.func55 rfl (by kernel_rfl) Try.ntmps55 rfl rfl (fun w0 β0 ext hβ => ?_)
      repeat (first
        | refine awl_p rfl rfl rfl ?_
        | refine awd_p rfl rfl rfl ?_
        | refine awl_nil ?_
        | refine awd_nil ?_
        | refine aw_seq ?_
        | refine aw_reg ?_
        | (refine aw_draw ?_ ?_; · kernel_rfl)
        | refine awl_load rfl rfl rfl ?_
        | refine awd_load rfl rfl rfl ?_
        | refine awd_loadp rfl rfl rfl ?_
        | refine awl_alloc rfl rfl rfl rfl ?_
        | refine awd_alloc rfl rfl rfl rfl ?_
        | refine awl_store rfl rfl ?_
        | refine awd_store rfl rfl ?_
        | refine awl_build rfl rfl rfl ?_
        | refine awd_build rfl rfl rfl ?_
        | refine aw_block ?_
        | refine aw_skip ?_
        | refine aw_exit ?_
        | refine aw_ret ?_
        | refine aw_cond_t rfl ?_
        | refine aw_cond_f rfl ?_
        | refine awl_skip rfl rfl ?_
        | refine awd_skip rfl rfl ?_
        | refine bodyQ_ret [] true rfl rfl rfl ?_)
      refine awl_d rfl rfl (call_obj [] (clone_ok m h0 hm) rfl rfl rfl rfl rfl rfl rfl rfl) ?_
      repeat (first
        | refine awl_p rfl rfl rfl ?_
        | refine awd_p rfl rfl rfl ?_
        | refine awl_nil ?_
        | refine awd_nil ?_
        | refine aw_seq ?_
        | refine aw_reg ?_
        | (refine aw_draw ?_ ?_; · kernel_rfl)
        | refine awl_load rfl rfl rfl ?_
        | refine awd_load rfl rfl rfl ?_
        | refine awd_loadp rfl rfl rfl ?_
        | refine awl_alloc rfl rfl rfl rfl ?_
        | refine awd_alloc rfl rfl rfl rfl ?_
        | refine awl_store rfl rfl ?_
        | refine awd_store rfl rfl ?_
        | refine awl_build rfl rfl rfl ?_
        | refine awd_build rfl rfl rfl ?_
        | refine aw_block ?_
        | refine aw_skip ?_
        | refine aw_exit ?_
        | refine aw_ret ?_
        | refine aw_cond_t rfl ?_
        | refine aw_cond_f rfl ?_
        | refine awl_skip rfl rfl ?_
        | refine awd_skip rfl rfl ?_
        | refine bodyQ_ret [] true rfl rfl rfl ?_)
      refine awl_d rfl rfl (len_arr rfl rfl rfl rfl) ?_
      repeat (first
        | refine awl_p rfl rfl rfl ?_
        | refine awd_p rfl rfl rfl ?_
        | refine awl_nil ?_
        | refine awd_nil ?_
        | refine aw_seq ?_
        | refine aw_reg ?_
        | refine awl_load rfl rfl rfl ?_
        | refine awd_load rfl rfl rfl ?_
        | refine awd_loadp rfl rfl rfl ?_
        | refine awl_alloc rfl rfl rfl rfl ?_
        | refine awd_alloc rfl rfl rfl rfl ?_
        | refine awl_store rfl rfl ?_
        | refine awd_store rfl rfl ?_
        | refine awl_build rfl rfl rfl ?_
        | refine awd_build rfl rfl rfl ?_
        | refine aw_block ?_
        | refine aw_skip ?_
        | refine aw_exit ?_
        | refine aw_ret ?_
        | refine aw_cond_t rfl ?_
        | refine aw_cond_f rfl ?_
        | refine awl_skip rfl rfl ?_
        | refine awd_skip rfl rfl ?_)
      refine aw_cond rfl (fun h => ?_) (fun h => ?_)
      · have h : m.length = 12 := by simp at h; omega
        repeat (first
          | refine awl_p rfl rfl rfl ?_
          | refine awd_p rfl rfl rfl ?_
          | refine awl_nil ?_
          | refine awd_nil ?_
          | refine aw_seq ?_
          | refine aw_reg ?_
          | (refine aw_draw ?_ ?_; · kernel_rfl)
          | refine awl_load rfl rfl rfl ?_
          | refine awd_load rfl rfl rfl ?_
          | refine awd_loadp rfl rfl rfl ?_
          | refine awl_alloc rfl rfl rfl rfl ?_
          | refine awd_alloc rfl rfl rfl rfl ?_
          | refine awl_store rfl rfl ?_
          | refine awd_store rfl rfl ?_
          | refine awl_build rfl rfl rfl ?_
          | refine awd_build rfl rfl rfl ?_
          | refine aw_block ?_
          | refine aw_skip ?_
          | refine aw_exit ?_
          | refine aw_ret ?_
          | refine aw_cond_t rfl ?_
          | refine aw_cond_f rfl ?_
          | refine awl_skip rfl rfl ?_
          | refine awd_skip rfl rfl ?_
          | refine bodyQ_ret [] true rfl rfl rfl ?_)
        refine one_ok ?_ ?_
        · simp [h, encR]
        · simp [h]
      · have h : ¬ m.length = 12 := by
          intro h2; simp [h2] at h
        refine aw_drawP [(0, .p), (1, .p), (2, .p), (3, .p), (4, .r), (5, .p), (6, .p), (7, .p), (8, .r), (9, .r), (10, .x), (11, .x), (12, .p), (13, .p), (14, .m)] rfl (by kernel_rfl) ?_
        repeat (first
          | refine awl_p rfl rfl rfl ?_
          | refine awd_p rfl rfl rfl ?_
          | refine awl_nil ?_
          | refine awd_nil ?_
          | refine aw_seq ?_
          | refine aw_reg ?_
          | (refine aw_draw ?_ ?_; · kernel_rfl)
          | refine awl_load rfl rfl rfl ?_
          | refine awd_load rfl rfl rfl ?_
          | refine awd_loadp rfl rfl rfl ?_
          | refine awl_alloc rfl rfl rfl rfl ?_
          | refine awd_alloc rfl rfl rfl rfl ?_
          | refine awl_store rfl rfl ?_
          | refine awd_store rfl rfl ?_
          | refine awl_build rfl rfl rfl ?_
          | refine awd_build rfl rfl rfl ?_
          | refine aw_block ?_
          | refine aw_skip ?_
          | refine aw_exit ?_
          | refine aw_ret ?_
          | refine aw_cond_t rfl ?_
          | refine aw_cond_f rfl ?_
          | refine awl_skip rfl rfl ?_
          | refine awd_skip rfl rfl ?_)
        refine awd_d rfl rfl (build_own rfl rfl) ?_
        refine awd_d rfl rfl ((call_obj [3, 4] (insert_ok m (place m c.key) ⟨c.key, c.value⟩ h0 (place_le _ _) hm) rfl rfl rfl rfl rfl rfl rfl rfl).x ⟨rfl, rfl, rfl, trivial⟩) ?_
        repeat (first
          | refine awl_p rfl rfl rfl ?_
          | refine awd_p rfl rfl rfl ?_
          | refine awl_nil ?_
          | refine awd_nil ?_
          | refine aw_seq ?_
          | refine aw_reg ?_
          | (refine aw_draw ?_ ?_; · kernel_rfl)
          | refine awl_load rfl rfl rfl ?_
          | refine awd_load rfl rfl rfl ?_
          | refine awd_loadp rfl rfl rfl ?_
          | refine awl_alloc rfl rfl rfl rfl ?_
          | refine awd_alloc rfl rfl rfl rfl ?_
          | refine awl_store rfl rfl ?_
          | refine awd_store rfl rfl ?_
          | refine awl_build rfl rfl rfl ?_
          | refine awd_build rfl rfl rfl ?_
          | refine aw_block ?_
          | refine aw_skip ?_
          | refine aw_exit ?_
          | refine aw_ret ?_
          | refine aw_cond_t rfl ?_
          | refine aw_cond_f rfl ?_
          | refine awl_skip rfl rfl ?_
          | refine awd_skip rfl rfl ?_
          | refine bodyQ_ret [] true rfl rfl rfl ?_)
        refine one_ok ?_ ?_
        · simp [h, encR]
        · simp [h]
    · have hlt := has_lt hb
      simp only [encS, encT, putS, hb]
      refine acalls_intro Try.func55 rfl (by kernel_rfl) Try.ntmps55 rfl rfl (fun w0 β0 ext hβ => ?_)
      repeat (first
        | refine awl_p rfl rfl rfl ?_
        | refine awd_p rfl rfl rfl ?_
        | refine awl_nil ?_
        | refine awd_nil ?_
        | refine aw_seq ?_
        | refine aw_reg ?_
        | (refine aw_draw ?_ ?_; · kernel_rfl)
        | refine awl_load rfl rfl rfl ?_
        | refine awd_load rfl rfl rfl ?_
        | refine awd_loadp rfl rfl rfl ?_
        | refine awl_alloc rfl rfl rfl rfl ?_
        | refine awd_alloc rfl rfl rfl rfl ?_
        | refine awl_store rfl rfl ?_
        | refine awd_store rfl rfl ?_
        | refine awl_build rfl rfl rfl ?_
        | refine awd_build rfl rfl rfl ?_
        | refine aw_block ?_
        | refine aw_skip ?_
        | refine aw_exit ?_
        | refine aw_ret ?_
        | refine aw_cond_t rfl ?_
        | refine aw_cond_f rfl ?_
        | refine awl_skip rfl rfl ?_
        | refine awd_skip rfl rfl ?_
        | refine bodyQ_ret [] true rfl rfl rfl ?_)
      refine awl_d rfl rfl (call_obj [] (clone_ok m h0 hm) rfl rfl rfl rfl rfl rfl rfl rfl) ?_
      repeat (first
        | refine awl_p rfl rfl rfl ?_
        | refine awd_p rfl rfl rfl ?_
        | refine awl_nil ?_
        | refine awd_nil ?_
        | refine aw_seq ?_
        | refine aw_reg ?_
        | refine awl_load rfl rfl rfl ?_
        | refine awd_load rfl rfl rfl ?_
        | refine awd_loadp rfl rfl rfl ?_
        | refine awl_alloc rfl rfl rfl rfl ?_
        | refine awd_alloc rfl rfl rfl rfl ?_
        | refine awl_store rfl rfl ?_
        | refine awd_store rfl rfl ?_
        | refine awl_build rfl rfl rfl ?_
        | refine awd_build rfl rfl rfl ?_
        | refine aw_block ?_
        | refine aw_skip ?_
        | refine aw_exit ?_
        | refine aw_ret ?_
        | refine aw_cond_t rfl ?_
        | refine aw_cond_f rfl ?_
        | refine awl_skip rfl rfl ?_
        | refine awd_skip rfl rfl ?_)
      refine aw_drawP [(0, .p), (1, .p), (2, .p), (3, .r), (4, .p), (5, .p), (6, .p), (7, .r), (8, .r), (9, .s), (10, .m)] rfl (by kernel_rfl) ?_
      repeat (first
        | refine awl_p rfl rfl rfl ?_
        | refine awd_p rfl rfl rfl ?_
        | refine awl_nil ?_
        | refine awd_nil ?_
        | refine aw_seq ?_
        | refine aw_reg ?_
        | (refine aw_draw ?_ ?_; · kernel_rfl)
        | refine awl_load rfl rfl rfl ?_
        | refine awd_load rfl rfl rfl ?_
        | refine awd_loadp rfl rfl rfl ?_
        | refine awl_alloc rfl rfl rfl rfl ?_
        | refine awd_alloc rfl rfl rfl rfl ?_
        | refine awl_store rfl rfl ?_
        | refine awd_store rfl rfl ?_
        | refine awl_build rfl rfl rfl ?_
        | refine awd_build rfl rfl rfl ?_
        | refine aw_block ?_
        | refine aw_skip ?_
        | refine aw_exit ?_
        | refine aw_ret ?_
        | refine aw_cond_t rfl ?_
        | refine aw_cond_f rfl ?_
        | refine awl_skip rfl rfl ?_
        | refine awd_skip rfl rfl ?_)
      refine awd_d rfl rfl (index_own rfl rfl rfl rfl rfl rfl (by omega) (by simpa using hlt)) ?_
      refine awd_dn rfl (store_own rfl rfl rfl (y := encP (at' m (place m c.key : Int))) ?_ rfl rfl rfl rfl rfl (Nat.le_refl 2) (.inl ⟨_, rfl⟩)) ?_
      · simp [at_nat m _ hlt, hlt]
      repeat (first
        | refine awl_p rfl rfl rfl ?_
        | refine awd_p rfl rfl rfl ?_
        | refine awl_nil ?_
        | refine awd_nil ?_
        | refine aw_seq ?_
        | refine aw_reg ?_
        | (refine aw_draw ?_ ?_; · kernel_rfl)
        | refine awl_load rfl rfl rfl ?_
        | refine awd_load rfl rfl rfl ?_
        | refine awd_loadp rfl rfl rfl ?_
        | refine awl_alloc rfl rfl rfl rfl ?_
        | refine awd_alloc rfl rfl rfl rfl ?_
        | refine awl_store rfl rfl ?_
        | refine awd_store rfl rfl ?_
        | refine awl_build rfl rfl rfl ?_
        | refine awd_build rfl rfl rfl ?_
        | refine aw_block ?_
        | refine aw_skip ?_
        | refine aw_exit ?_
        | refine aw_ret ?_
        | refine aw_cond_t rfl ?_
        | refine aw_cond_f rfl ?_
        | refine awl_skip rfl rfl ?_
        | refine awd_skip rfl rfl ?_
        | refine bodyQ_ret [] true rfl rfl rfl ?_)
      refine one_ok ?_ ?_
      · simp [encR]
      · simp only [if_true, List.map_set]; rfl
def absentS (m : List Pair) (c : Call) : List Pair × Reply := if has m c.key then (m, ⟨15, (at' m (place m c.key : Int)).value⟩) else putS m c
theorem absent_ok (m : List Pair) (c : Call) (hm : m.length ≤ 1000000) : ACalls Try.prog 56 [.ptr 0 0] [.box 75 (encS m c)] (one (encR (absentS m c).2) [.box 75 (encT (absentS m c).1 m c)]) := by
  cases hb : has m c.key
  · have hp : absentS m c = putS m c := by simp [absentS, hb]
    rw [hp]
    have hput := put_ok m c hm
    generalize putS m c = q at hput
    simp only [encS, hb] at hput ⊢
    refine acalls_intro Try.func56 rfl (by kernel_rfl) Try.ntmps56 rfl rfl (fun w0 β0 ext hβ => ?_)
    repeat (first
      | refine awl_p rfl rfl rfl ?_
      | refine awd_p rfl rfl rfl ?_
      | refine awl_nil ?_
      | refine awd_nil ?_
      | refine aw_seq ?_
      | refine aw_reg ?_
      | (refine aw_draw ?_ ?_; · kernel_rfl)
      | refine awl_load rfl rfl rfl ?_
      | refine awd_load rfl rfl rfl ?_
      | refine awd_loadp rfl rfl rfl ?_
      | refine awl_alloc rfl rfl rfl rfl ?_
      | refine awd_alloc rfl rfl rfl rfl ?_
      | refine awl_store rfl rfl ?_
      | refine awd_store rfl rfl ?_
      | refine awl_build rfl rfl rfl ?_
      | refine awd_build rfl rfl rfl ?_
      | refine aw_block ?_
      | refine aw_skip ?_
      | refine aw_exit ?_
      | refine aw_ret ?_
      | refine aw_cond_t rfl ?_
      | refine aw_cond_f rfl ?_
      | refine awl_skip rfl rfl ?_
      | refine awd_skip rfl rfl ?_
      | refine bodyQ_ret [] true rfl rfl rfl ?_)
    refine awl_d rfl rfl (call_obj [0] hput rfl rfl rfl rfl rfl rfl rfl rfl) ?_
    repeat (first
      | refine awl_p rfl rfl rfl ?_
      | refine awd_p rfl rfl rfl ?_
      | refine awl_nil ?_
      | refine awd_nil ?_
      | refine aw_seq ?_
      | refine aw_reg ?_
      | (refine aw_draw ?_ ?_; · kernel_rfl)
      | refine awl_load rfl rfl rfl ?_
      | refine awd_load rfl rfl rfl ?_
      | refine awd_loadp rfl rfl rfl ?_
      | refine awl_alloc rfl rfl rfl rfl ?_
      | refine awd_alloc rfl rfl rfl rfl ?_
      | refine awl_store rfl rfl ?_
      | refine awd_store rfl rfl ?_
      | refine awl_build rfl rfl rfl ?_
      | refine awd_build rfl rfl rfl ?_
      | refine aw_block ?_
      | refine aw_skip ?_
      | refine aw_exit ?_
      | refine aw_ret ?_
      | refine aw_cond_t rfl ?_
      | refine aw_cond_f rfl ?_
      | refine awl_skip rfl rfl ?_
      | refine awd_skip rfl rfl ?_
      | refine bodyQ_ret [] true rfl rfl rfl ?_)
    exact one_ok rfl rfl
  · have hlt := has_lt hb
    have hp : absentS m c = (m, ⟨15, (at' m (place m c.key : Int)).value⟩) := by simp [absentS, hb]
    rw [hp]
    simp only [encS, encT, hb]
    refine acalls_intro Try.func56 rfl (by kernel_rfl) Try.ntmps56 rfl rfl (fun w0 β0 ext hβ => ?_)
    repeat' (first
      | refine one_ok ?_ rfl
      | refine awl_p rfl rfl rfl ?_
      | refine awd_p rfl rfl rfl ?_
      | refine awl_nil ?_
      | refine awd_nil ?_
      | refine aw_seq ?_
      | refine aw_reg ?_
      | (refine aw_draw ?_ ?_; · kernel_rfl)
      | refine awl_load rfl rfl rfl ?_
      | refine awd_load rfl rfl rfl ?_
      | refine awd_loadp rfl rfl rfl ?_
      | refine awl_alloc rfl rfl rfl rfl ?_
      | refine awd_alloc rfl rfl rfl rfl ?_
      | refine awl_store rfl rfl ?_
      | refine awd_store rfl rfl ?_
      | refine awl_build rfl rfl rfl ?_
      | refine awd_build rfl rfl rfl ?_
      | refine aw_block ?_
      | refine aw_skip ?_
      | refine aw_exit ?_
      | refine aw_ret ?_
      | refine aw_cond_t rfl ?_
      | refine aw_cond_f rfl ?_
      | refine awl_skip rfl rfl ?_
      | refine awd_skip rfl rfl ?_
      | (refine awl_g rfl rfl (fun h => ?_) (fun h => ?_) <;> (try simp only [decide_eq_true_eq, decide_eq_false_iff_not, beq_iff_eq, beq_eq_false_iff_ne, bne_iff_ne, bne_eq_false_iff_eq, ne_eq] at h) <;> (try (exfalso; omega)))
      | (refine awd_g rfl rfl (fun h => ?_) (fun h => ?_) <;> (try simp only [decide_eq_true_eq, decide_eq_false_iff_not, beq_iff_eq, beq_eq_false_iff_ne, bne_iff_ne, bne_eq_false_iff_eq, ne_eq] at h) <;> (try (exfalso; omega)))
      | (refine aw_condS rfl (fun h => ?_) (fun h => ?_) <;> (try simp only [decide_eq_true_eq, decide_eq_false_iff_not, beq_iff_eq, beq_eq_false_iff_ne, bne_iff_ne, bne_eq_false_iff_eq, ne_eq] at h) <;> (try (exfalso; omega)))
      | refine awl_d rfl rfl (index_at rfl rfl rfl rfl rfl rfl rfl rfl (by omega) (by omega)) ?_
      | refine awd_d rfl rfl (index_at rfl rfl rfl rfl rfl rfl rfl rfl (by omega) (by omega)) ?_
      | refine bodyQ_ret [] true rfl rfl rfl ?_)
    all_goals rfl

def casS (m : List Pair) (c : Call) : List Pair × Reply :=
  if has m c.key then (if (at' m (place m c.key : Int)).value ≠ c.old then (m, ⟨16, (at' m (place m c.key : Int)).value⟩) else putS m c) else (m, ⟨8, 0⟩)
theorem cas_ok (m : List Pair) (c : Call) (hm : m.length ≤ 1000000) : ACalls Try.prog 57 [.ptr 0 0] [.box 75 (encS m c)] (one (encR (casS m c).2) [.box 75 (encT (casS m c).1 m c)]) := by
  have hget := get_ok m c
  have hput := put_ok m c hm
  generalize hq : putS m c = q at hput
  cases hb : has m c.key
  · have h1 : getS m c = ⟨8, 0⟩ := by simp [getS, hb]
    have h2 : casS m c = (m, ⟨8, 0⟩) := by simp [casS, hb]
    rw [h1] at hget
    rw [h2]
    refine acalls_intro Try.func57 rfl (by kernel_rfl) Try.ntmps57 rfl rfl (fun w0 β0 ext hβ => ?_)
    repeat (first
      | refine awl_p rfl rfl rfl ?_
      | refine awd_p rfl rfl rfl ?_
      | refine awl_nil ?_
      | refine awd_nil ?_
      | refine aw_seq ?_
      | refine aw_reg ?_
      | (refine aw_draw ?_ ?_; · kernel_rfl)
      | refine awl_load rfl rfl rfl ?_
      | refine awd_load rfl rfl rfl ?_
      | refine awd_loadp rfl rfl rfl ?_
      | refine awl_alloc rfl rfl rfl rfl ?_
      | refine awd_alloc rfl rfl rfl rfl ?_
      | refine awl_store rfl rfl ?_
      | refine awd_store rfl rfl ?_
      | refine awl_build rfl rfl rfl ?_
      | refine awd_build rfl rfl rfl ?_
      | refine aw_block ?_
      | refine aw_skip ?_
      | refine aw_exit ?_
      | refine aw_ret ?_
      | refine aw_cond_t rfl ?_
      | refine aw_cond_f rfl ?_
      | refine awl_skip rfl rfl ?_
      | refine awd_skip rfl rfl ?_
      | refine bodyQ_ret [] true rfl rfl rfl ?_)
    refine awl_d rfl rfl (call_obj [0] hget rfl rfl rfl rfl rfl rfl rfl rfl) ?_
    repeat (first
      | refine awl_p rfl rfl rfl ?_
      | refine awd_p rfl rfl rfl ?_
      | refine awl_nil ?_
      | refine awd_nil ?_
      | refine aw_seq ?_
      | refine aw_reg ?_
      | (refine aw_draw ?_ ?_; · kernel_rfl)
      | refine awl_load rfl rfl rfl ?_
      | refine awd_load rfl rfl rfl ?_
      | refine awd_loadp rfl rfl rfl ?_
      | refine awl_alloc rfl rfl rfl rfl ?_
      | refine awd_alloc rfl rfl rfl rfl ?_
      | refine awl_store rfl rfl ?_
      | refine awd_store rfl rfl ?_
      | refine awl_build rfl rfl rfl ?_
      | refine awd_build rfl rfl rfl ?_
      | refine aw_block ?_
      | refine aw_skip ?_
      | refine aw_exit ?_
      | refine aw_ret ?_
      | refine aw_cond_t rfl ?_
      | refine aw_cond_f rfl ?_
      | refine awl_skip rfl rfl ?_
      | refine awd_skip rfl rfl ?_
      | refine bodyQ_ret [] true rfl rfl rfl ?_)
    exact one_ok rfl rfl
  · have h1 : getS m c = ⟨0, (at' m (place m c.key : Int)).value⟩ := by simp [getS, hb]
    rw [h1] at hget
    have h2 : casS m c = if (at' m (place m c.key : Int)).value ≠ c.old then (m, ⟨16, (at' m (place m c.key : Int)).value⟩) else putS m c := by simp [casS, hb]
    rw [h2, hq]
    generalize (at' m (place m c.key : Int)).value = v at hget
    refine acalls_intro Try.func57 rfl (by kernel_rfl) Try.ntmps57 rfl rfl (fun w0 β0 ext hβ => ?_)
    repeat (first
      | refine awl_p rfl rfl rfl ?_
      | refine awd_p rfl rfl rfl ?_
      | refine awl_nil ?_
      | refine awd_nil ?_
      | refine aw_seq ?_
      | refine aw_reg ?_
      | (refine aw_draw ?_ ?_; · kernel_rfl)
      | refine awl_load rfl rfl rfl ?_
      | refine awd_load rfl rfl rfl ?_
      | refine awd_loadp rfl rfl rfl ?_
      | refine awl_alloc rfl rfl rfl rfl ?_
      | refine awd_alloc rfl rfl rfl rfl ?_
      | refine awl_store rfl rfl ?_
      | refine awd_store rfl rfl ?_
      | refine awl_build rfl rfl rfl ?_
      | refine awd_build rfl rfl rfl ?_
      | refine aw_block ?_
      | refine aw_skip ?_
      | refine aw_exit ?_
      | refine aw_ret ?_
      | refine aw_cond_t rfl ?_
      | refine aw_cond_f rfl ?_
      | refine awl_skip rfl rfl ?_
      | refine awd_skip rfl rfl ?_
      | refine bodyQ_ret [] true rfl rfl rfl ?_)
    refine awl_d rfl rfl (call_obj [0] hget rfl rfl rfl rfl rfl rfl rfl rfl) ?_
    repeat (first
      | refine awl_p rfl rfl rfl ?_
      | refine awd_p rfl rfl rfl ?_
      | refine awl_nil ?_
      | refine awd_nil ?_
      | refine aw_seq ?_
      | refine aw_reg ?_
      | (refine aw_draw ?_ ?_; · kernel_rfl)
      | refine awl_load rfl rfl rfl ?_
      | refine awd_load rfl rfl rfl ?_
      | refine awd_loadp rfl rfl rfl ?_
      | refine awl_alloc rfl rfl rfl rfl ?_
      | refine awd_alloc rfl rfl rfl rfl ?_
      | refine awl_store rfl rfl ?_
      | refine awd_store rfl rfl ?_
      | refine awl_build rfl rfl rfl ?_
      | refine awd_build rfl rfl rfl ?_
      | refine aw_block ?_
      | refine aw_skip ?_
      | refine aw_exit ?_
      | refine aw_ret ?_
      | refine aw_cond_t rfl ?_
      | refine aw_cond_f rfl ?_
      | refine awl_skip rfl rfl ?_
      | refine awd_skip rfl rfl ?_
      | refine bodyQ_ret [] true rfl rfl rfl ?_)
    refine aw_cond rfl (fun h => ?_) (fun h => ?_)
    · have h : v ≠ c.old := by simpa using h
      rw [if_pos h]
      repeat (first
        | refine awl_p rfl rfl rfl ?_
        | refine awd_p rfl rfl rfl ?_
        | refine awl_nil ?_
        | refine awd_nil ?_
        | refine aw_seq ?_
        | refine aw_reg ?_
        | (refine aw_draw ?_ ?_; · kernel_rfl)
        | refine awl_load rfl rfl rfl ?_
        | refine awd_load rfl rfl rfl ?_
        | refine awd_loadp rfl rfl rfl ?_
        | refine awl_alloc rfl rfl rfl rfl ?_
        | refine awd_alloc rfl rfl rfl rfl ?_
        | refine awl_store rfl rfl ?_
        | refine awd_store rfl rfl ?_
        | refine awl_build rfl rfl rfl ?_
        | refine awd_build rfl rfl rfl ?_
        | refine aw_block ?_
        | refine aw_skip ?_
        | refine aw_exit ?_
        | refine aw_ret ?_
        | refine aw_cond_t rfl ?_
        | refine aw_cond_f rfl ?_
        | refine awl_skip rfl rfl ?_
        | refine awd_skip rfl rfl ?_
        | refine bodyQ_ret [] true rfl rfl rfl ?_)
      exact one_ok rfl rfl
    · have h : ¬ v ≠ c.old := by simpa using h
      rw [if_neg h]
      repeat (first
        | refine awl_p rfl rfl rfl ?_
        | refine awd_p rfl rfl rfl ?_
        | refine awl_nil ?_
        | refine awd_nil ?_
        | refine aw_seq ?_
        | refine aw_reg ?_
        | (refine aw_draw ?_ ?_; · kernel_rfl)
        | refine awl_load rfl rfl rfl ?_
        | refine awd_load rfl rfl rfl ?_
        | refine awd_loadp rfl rfl rfl ?_
        | refine awl_alloc rfl rfl rfl rfl ?_
        | refine awd_alloc rfl rfl rfl rfl ?_
        | refine awl_store rfl rfl ?_
        | refine awd_store rfl rfl ?_
        | refine awl_build rfl rfl rfl ?_
        | refine awd_build rfl rfl rfl ?_
        | refine aw_block ?_
        | refine aw_skip ?_
        | refine aw_exit ?_
        | refine aw_ret ?_
        | refine aw_cond_t rfl ?_
        | refine aw_cond_f rfl ?_
        | refine awl_skip rfl rfl ?_
        | refine awd_skip rfl rfl ?_
        | refine bodyQ_ret [] true rfl rfl rfl ?_)
      refine awl_d rfl rfl (call_obj [0] hput rfl rfl rfl rfl rfl rfl rfl rfl) ?_
      repeat (first
        | refine awl_p rfl rfl rfl ?_
        | refine awd_p rfl rfl rfl ?_
        | refine awl_nil ?_
        | refine awd_nil ?_
        | refine aw_seq ?_
        | refine aw_reg ?_
        | (refine aw_draw ?_ ?_; · kernel_rfl)
        | refine awl_load rfl rfl rfl ?_
        | refine awd_load rfl rfl rfl ?_
        | refine awd_loadp rfl rfl rfl ?_
        | refine awl_alloc rfl rfl rfl rfl ?_
        | refine awd_alloc rfl rfl rfl rfl ?_
        | refine awl_store rfl rfl ?_
        | refine awd_store rfl rfl ?_
        | refine awl_build rfl rfl rfl ?_
        | refine awd_build rfl rfl rfl ?_
        | refine aw_block ?_
        | refine aw_skip ?_
        | refine aw_exit ?_
        | refine aw_ret ?_
        | refine aw_cond_t rfl ?_
        | refine aw_cond_f rfl ?_
        | refine awl_skip rfl rfl ?_
        | refine awd_skip rfl rfl ?_
        | refine bodyQ_ret [] true rfl rfl rfl ?_)
      exact one_ok rfl rfl
end Go.AL
