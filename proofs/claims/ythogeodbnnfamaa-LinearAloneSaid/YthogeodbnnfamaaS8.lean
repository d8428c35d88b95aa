/-
  The reference for what a call does to a map. No conditions.
-/
import Derived.Test.YthogeodbnnfamaaS6
set_option linter.unusedVariables false
set_option linter.unusedSimpArgs false
set_option maxRecDepth 100000
namespace Go.AL
open Go Go.Proofs
attribute [local irreducible] AWL AWD AW inB

/-- a key's value, and whether it is there -/
def valR : List Pair → Int → Int × Bool
  | [], _ => (0, false)
  | p :: m, k => if p.key = k then (p.value, true) else valR m k
theorem valR_drop {m : List Pair} {i : Nat} (h : i < m.length) (k : Int) : valR (m.drop i) k = if (at' m (i : Int)).key = k then ((at' m (i : Int)).value, true) else valR (m.drop (i + 1)) k := by
  rw [at_nat m i h, List.drop_eq_getElem_cons h]; rfl
theorem value_ok (m : List Pair) (k : Int) (hm : m.length ≤ 1000000) : ACalls Try.prog 38 [.sl (m.map encP), .v (.int .i64 k)] [] (one (.tup [.v (.int .i64 (valR m k).1), .v (.bool (valR m k).2)]) []) := by
  refine acalls_intro Try.func38 rfl (by kernel_rfl) Try.ntmps38 rfl rfl (fun w0 β0 ext hβ => ?_)
  repeat (first
    | refine awl_p rfl rfl rfl ?_
    | refine awd_p rfl rfl rfl ?_
    | refine awl_nil ?_
    | refine awd_nil ?_
    | refine aw_seq ?_
    | refine aw_reg ?_
    | (refine aw_draw ?_ ?_; · kernel_rfl)
    | refine awl_load rfl rfl rfl ?_
    | refine awd_load rfl rfl rfl ?_
    | refine awd_loadp rfl rfl rfl ?_
    | refine awl_alloc rfl rfl rfl rfl ?_
    | refine awd_alloc rfl rfl rfl rfl ?_
    | refine awl_store rfl rfl ?_
    | refine awd_store rfl rfl ?_
    | refine awl_build rfl rfl rfl ?_
    | refine awd_build rfl rfl rfl ?_
    | refine aw_block ?_
    | refine aw_skip ?_
    | refine aw_exit ?_
    | refine aw_ret ?_
    | refine aw_cond_t rfl ?_
    | refine aw_cond_f rfl ?_
    | refine awl_skip rfl rfl ?_
    | refine awd_skip rfl rfl ?_
    | refine bodyQ_ret [] true rfl rfl rfl ?_)
  refine aw_loopF (ι := Nat) 0 (fun i => i ≤ m.length ∧ valR m k = valR (m.drop i) k) [1, 8, 9, 10] (fun i => [.v (.int .i64 k), .sl (m.map encP), .v (.int .i64 m.length), .v (.int .i64 i)]) (fun _ => []) (fun i => m.length - i) 0 (Nat.le_of_eq hβ) ⟨by omega, rfl⟩ (by simp; rfl) rfl ?_
  rintro i ⟨hi, hv⟩
  repeat (first
    | refine awl_p rfl rfl rfl ?_
    | refine awd_p rfl rfl rfl ?_
    | refine awl_nil ?_
    | refine awd_nil ?_
    | refine aw_seq ?_
    | refine aw_reg ?_
    | (refine aw_draw ?_ ?_; · kernel_rfl)
    | refine awl_load rfl rfl rfl ?_
    | refine awd_load rfl rfl rfl ?_
    | refine awd_loadp rfl rfl rfl ?_
    | refine awl_alloc rfl rfl rfl rfl ?_
    | refine awd_alloc rfl rfl rfl rfl ?_
    | refine awl_store rfl rfl ?_
    | refine awd_store rfl rfl ?_
    | refine awl_build rfl rfl rfl ?_
    | refine awd_build rfl rfl rfl ?_
    | refine aw_block ?_
    | refine aw_skip ?_
    | refine aw_exit ?_
    | refine aw_ret ?_
    | refine aw_cond_t rfl ?_
    | refine aw_cond_f rfl ?_
    | refine awl_skip rfl rfl ?_
    | refine awd_skip rfl rfl ?_
    | refine bodyQ_ret [] true rfl rfl rfl ?_)
  refine aw_cond rfl (fun h => ?_) (fun h => ?_)
  · have h := of_decide_eq_true h
    have hi1 : i < m.length := by omega
    have w1 : IntKind.i64.wrap ((i : Int) + 1) = ((i + 1 : Nat) : Int) := by rw [wrap_id] <;> omega
    repeat (first
      | refine awl_p rfl rfl rfl ?_
      | refine awd_p rfl rfl rfl ?_
      | refine awl_nil ?_
      | refine awd_nil ?_
      | refine aw_seq ?_
      | refine aw_reg ?_
      | (refine aw_draw ?_ ?_; · kernel_rfl)
      | refine awl_load rfl rfl rfl ?_
      | refine awd_load rfl rfl rfl ?_
      | refine awd_loadp rfl rfl rfl ?_
      | refine awl_alloc rfl rfl rfl rfl ?_
      | refine awd_alloc rfl rfl rfl rfl ?_
      | refine awl_store rfl rfl ?_
      | refine awd_store rfl rfl ?_
      | refine awl_build rfl rfl rfl ?_
      | refine awd_build rfl rfl rfl ?_
      | refine aw_block ?_
      | refine aw_skip ?_
      | refine aw_exit ?_
      | refine aw_ret ?_
      | refine aw_cond_t rfl ?_
      | refine aw_cond_f rfl ?_
      | refine awl_skip rfl rfl ?_
      | refine awd_skip rfl rfl ?_
      | refine bodyQ_ret [] true rfl rfl rfl ?_)
    refine awl_d rfl rfl (index_at rfl rfl rfl rfl rfl rfl rfl rfl (by omega) (by omega)) ?_
    repeat (first
      | refine awl_p rfl rfl rfl ?_
      | refine awd_p rfl rfl rfl ?_
      | refine awl_nil ?_
      | refine awd_nil ?_
      | refine aw_seq ?_
      | refine aw_reg ?_
      | (refine aw_draw ?_ ?_; · kernel_rfl)
      | refine awl_load rfl rfl rfl ?_
      | refine awd_load rfl rfl rfl ?_
      | refine awd_loadp rfl rfl rfl ?_
      | refine awl_alloc rfl rfl rfl rfl ?_
      | refine awd_alloc rfl rfl rfl rfl ?_
      | refine awl_store rfl rfl ?_
      | refine awd_store rfl rfl ?_
      | refine awl_build rfl rfl rfl ?_
      | refine awd_build rfl rfl rfl ?_
      | refine aw_block ?_
      | refine aw_skip ?_
      | refine aw_exit ?_
      | refine aw_ret ?_
      | refine aw_cond_t rfl ?_
      | refine aw_cond_f rfl ?_
      | refine awl_skip rfl rfl ?_
      | refine awd_skip rfl rfl ?_
      | refine bodyQ_ret [] true rfl rfl rfl ?_)
    rw [valR_drop hi1] at hv
    refine aw_cond rfl (fun h => ?_) (fun h => ?_)
    · have h : (at' m (i : Int)).key = k := by simpa using h
      rw [if_pos h] at hv
      repeat (first
        | refine awl_p rfl rfl rfl ?_
        | refine awd_p rfl rfl rfl ?_
        | refine awl_nil ?_
        | refine awd_nil ?_
        | refine aw_seq ?_
        | refine aw_reg ?_
        | (refine aw_draw ?_ ?_; · kernel_rfl)
        | refine awl_load rfl rfl rfl ?_
        | refine awd_load rfl rfl rfl ?_
        | refine awd_loadp rfl rfl rfl ?_
        | refine awl_alloc rfl rfl rfl rfl ?_
        | refine awd_alloc rfl rfl rfl rfl ?_
        | refine awl_store rfl rfl ?_
        | refine awd_store rfl rfl ?_
        | refine awl_build rfl rfl rfl ?_
        | refine awd_build rfl rfl rfl ?_
        | refine aw_block ?_
        | refine aw_skip ?_
        | refine aw_exit ?_
        | refine aw_ret ?_
        | refine aw_cond_t rfl ?_
        | refine aw_cond_f rfl ?_
        | refine awl_skip rfl rfl ?_
        | refine awd_skip rfl rfl ?_
        | refine bodyQ_ret [] true rfl rfl rfl ?_)
      rw [hv]
      exact one_ok rfl rfl
    · have h : ¬ (at' m (i : Int)).key = k := by simpa using h
      rw [if_neg h] at hv
      repeat (first
        | refine awl_p rfl rfl rfl ?_
        | refine awd_p rfl rfl rfl ?_
        | refine awl_nil ?_
        | refine awd_nil ?_
        | refine aw_seq ?_
        | refine aw_reg ?_
        | (refine aw_draw ?_ ?_; · kernel_rfl)
        | refine awl_load rfl rfl rfl ?_
        | refine awd_load rfl rfl rfl ?_
        | refine awd_loadp rfl rfl rfl ?_
        | refine awl_alloc rfl rfl rfl rfl ?_
        | refine awd_alloc rfl rfl rfl rfl ?_
        | refine awl_store rfl rfl ?_
        | refine awd_store rfl rfl ?_
        | refine awl_build rfl rfl rfl ?_
        | refine awd_build rfl rfl rfl ?_
        | refine aw_block ?_
        | refine aw_skip ?_
        | refine aw_exit ?_
        | refine aw_ret ?_
        | refine aw_cond_t rfl ?_
        | refine aw_cond_f rfl ?_
        | refine awl_skip rfl rfl ?_
        | refine awd_skip rfl rfl ?_
        | refine bodyQ_ret [] true rfl rfl rfl ?_)
      refine ⟨i + 1, ⟨by omega, hv⟩, by dsimp only; omega, true, _, _, _, rfl, rfl, rfl, ?_, rfl⟩
      exact congrArg (fun z => [AVal.v (.int .i64 k), .sl (m.map encP), .v (.int .i64 m.length), .v (.int .i64 z)]) w1
  · have h := of_decide_eq_false h
    have hi2 : i = m.length := by omega
    subst hi2
    rw [hv, List.drop_length]
    repeat (first
      | refine awl_p rfl rfl rfl ?_
      | refine awd_p rfl rfl rfl ?_
      | refine awl_nil ?_
      | refine awd_nil ?_
      | refine aw_seq ?_
      | refine aw_reg ?_
      | (refine aw_draw ?_ ?_; · kernel_rfl)
      | refine awl_load rfl rfl rfl ?_
      | refine awd_load rfl rfl rfl ?_
      | refine awd_loadp rfl rfl rfl ?_
      | refine awl_alloc rfl rfl rfl rfl ?_
      | refine awd_alloc rfl rfl rfl rfl ?_
      | refine awl_store rfl rfl ?_
      | refine awd_store rfl rfl ?_
      | refine awl_build rfl rfl rfl ?_
      | refine awd_build rfl rfl rfl ?_
      | refine aw_block ?_
      | refine aw_skip ?_
      | refine aw_exit ?_
      | refine aw_ret ?_
      | refine aw_cond_t rfl ?_
      | refine aw_cond_f rfl ?_
      | refine awl_skip rfl rfl ?_
      | refine awd_skip rfl rfl ?_
      | refine bodyQ_ret [] true rfl rfl rfl ?_)
    exact one_ok rfl rfl

/-- a map without a key -/
def wo (m : List Pair) (k : Int) : List Pair := m.filter fun p => decide (p.key ≠ k)
theorem wo_take {m : List Pair} {i : Nat} (h : i < m.length) (k : Int) : wo (m.take (i + 1)) k = if (at' m (i : Int)).key = k then wo (m.take i) k else wo (m.take i) k ++ [at' m (i : Int)] := by
  rw [at_nat m i h, List.take_succ_eq_append_getElem h]
  unfold wo
  rw [List.filter_append]
  by_cases hk : m[i].key = k <;> simp [hk]
theorem wo_len (m : List Pair) (k : Int) : (wo m k).length ≤ m.length := List.length_filter_le ..
set_option maxHeartbeats 4000000 in
theorem without_ok (m : List Pair) (k : Int) (hm : m.length ≤ 1000000) : ACalls Try.prog 40 [.sl (m.map encP), .v (.int .i64 k)] [] (one (.sl ((wo m k).map encP)) []) := by
  refine acalls_intro Try.func40 rfl (by kernel_rfl) Try.ntmps40 rfl rfl (fun w0 β0 ext hβ => ?_)
  repeat (first
    | refine awl_p rfl rfl rfl ?_
    | refine awd_p rfl rfl rfl ?_
    | refine awl_nil ?_
    | refine awd_nil ?_
    | refine aw_seq ?_
    | refine aw_reg ?_
    | (refine aw_draw ?_ ?_; · kernel_rfl)
    | refine awl_load rfl rfl rfl ?_
    | refine awd_load rfl rfl rfl ?_
    | refine awd_loadp rfl rfl rfl ?_
    | refine awl_alloc rfl rfl rfl rfl ?_
    | refine awd_alloc rfl rfl rfl rfl ?_
    | refine awl_store rfl rfl ?_
    | refine awd_store rfl rfl ?_
    | refine awl_build rfl rfl rfl ?_
    | refine awd_build rfl rfl rfl ?_
    | refine aw_block ?_
    | refine aw_skip ?_
    | refine aw_exit ?_
    | refine aw_ret ?_
    | refine aw_cond_t rfl ?_
    | refine aw_cond_f rfl ?_
    | refine awl_skip rfl rfl ?_
    | refine awd_skip rfl rfl ?_
    | refine bodyQ_ret [] true rfl rfl rfl ?_)
  refine aw_adopt [5] 77 2 rfl ?_
  refine aw_loopF (ι := Nat × Nat) 1 (fun i => i.1 ≤ m.length) [1, 5, 9, 10, 11] (fun i => [.v (.int .i64 k), .arr 0 i.2, .sl (m.map encP), .v (.int .i64 m.length), .v (.int .i64 i.1)]) (fun i => [.arr i.2 77 2 ((wo (m.take i.1) k).map encP)]) (fun i => m.length - i.1) (0, 1) (by rw [hβ]; decide) (by simp) (by simp; rfl) rfl ?_
  rintro ⟨i, g⟩ hi
  have hi : i ≤ m.length := hi
  have hwl : (wo (m.take i) k).length ≤ m.length := Nat.le_trans (wo_len _ _) (by rw [List.length_take]; omega)
  repeat (first
    | refine awl_p rfl rfl rfl ?_
    | refine awd_p rfl rfl rfl ?_
    | refine awl_nil ?_
    | refine awd_nil ?_
    | refine aw_seq ?_
    | refine aw_reg ?_
    | (refine aw_draw ?_ ?_; · kernel_rfl)
    | refine awl_load rfl rfl rfl ?_
    | refine awd_load rfl rfl rfl ?_
    | refine awd_loadp rfl rfl rfl ?_
    | refine awl_alloc rfl rfl rfl rfl ?_
    | refine awd_alloc rfl rfl rfl rfl ?_
    | refine awl_store rfl rfl ?_
    | refine awd_store rfl rfl ?_
    | refine awl_build rfl rfl rfl ?_
    | refine awd_build rfl rfl rfl ?_
    | refine aw_block ?_
    | refine aw_skip ?_
    | refine aw_exit ?_
    | refine aw_ret ?_
    | refine aw_cond_t rfl ?_
    | refine aw_cond_f rfl ?_
    | refine awl_skip rfl rfl ?_
    | refine awd_skip rfl rfl ?_
    | refine bodyQ_ret [] true rfl rfl rfl ?_)
  refine aw_cond rfl (fun h => ?_) (fun h => ?_)
  · have h := of_decide_eq_true h
    dsimp only at h
    have hi1 : i < m.length := by omega
    have w1 : IntKind.i64.wrap ((i : Int) + 1) = ((i + 1 : Nat) : Int) := by rw [wrap_id] <;> omega
    have ht := wo_take hi1 k
    repeat (first
      | refine awl_p rfl rfl rfl ?_
      | refine awd_p rfl rfl rfl ?_
      | refine awl_nil ?_
      | refine awd_nil ?_
      | refine aw_seq ?_
      | refine aw_reg ?_
      | (refine aw_draw ?_ ?_; · kernel_rfl)
      | refine awl_load rfl rfl rfl ?_
      | refine awd_load rfl rfl rfl ?_
      | refine awd_loadp rfl rfl rfl ?_
      | refine awl_alloc rfl rfl rfl rfl ?_
      | refine awd_alloc rfl rfl rfl rfl ?_
      | refine awl_store rfl rfl ?_
      | refine awd_store rfl rfl ?_
      | refine awl_build rfl rfl rfl ?_
      | refine awd_build rfl rfl rfl ?_
      | refine aw_block ?_
      | refine aw_skip ?_
      | refine aw_exit ?_
      | refine aw_ret ?_
      | refine aw_cond_t rfl ?_
      | refine aw_cond_f rfl ?_
      | refine awl_skip rfl rfl ?_
      | refine awd_skip rfl rfl ?_
      | refine bodyQ_ret [] true rfl rfl rfl ?_)
    refine awl_d rfl rfl (index_at rfl rfl rfl rfl rfl rfl rfl rfl (by dsimp only; omega) (by dsimp only; omega)) ?_
    repeat (first
      | refine awl_p rfl rfl rfl ?_
      | refine awd_p rfl rfl rfl ?_
      | refine awl_nil ?_
      | refine awd_nil ?_
      | refine aw_seq ?_
      | refine aw_reg ?_
      | (refine aw_draw ?_ ?_; · kernel_rfl)
      | refine awl_load rfl rfl rfl ?_
      | refine awd_load rfl rfl rfl ?_
      | refine awd_loadp rfl rfl rfl ?_
      | refine awl_alloc rfl rfl rfl rfl ?_
      | refine awd_alloc rfl rfl rfl rfl ?_
      | refine awl_store rfl rfl ?_
      | refine awd_store rfl rfl ?_
      | refine awl_build rfl rfl rfl ?_
      | refine awd_build rfl rfl rfl ?_
      | refine aw_block ?_
      | refine aw_skip ?_
      | refine aw_exit ?_
      | refine aw_ret ?_
      | refine aw_cond_t rfl ?_
      | refine aw_cond_f rfl ?_
      | refine awl_skip rfl rfl ?_
      | refine awd_skip rfl rfl ?_
      | refine bodyQ_ret [] true rfl rfl rfl ?_)
    refine aw_cond rfl (fun h => ?_) (fun h => ?_)
    · have h : ¬ (at' m (i : Int)).key = k := by simpa using h
      rw [if_neg h] at ht
      repeat (first
        | refine awl_p rfl rfl rfl ?_
        | refine awd_p rfl rfl rfl ?_
        | refine awl_nil ?_
        | refine awd_nil ?_
        | refine aw_seq ?_
        | refine aw_reg ?_
        | (refine aw_draw ?_ ?_; · kernel_rfl)
        | refine awl_load rfl rfl rfl ?_
        | refine awd_load rfl rfl rfl ?_
        | refine awd_loadp rfl rfl rfl ?_
        | refine awl_alloc rfl rfl rfl rfl ?_
        | refine awd_alloc rfl rfl rfl rfl ?_
        | refine awl_store rfl rfl ?_
        | refine awd_store rfl rfl ?_
        | refine awl_build rfl rfl rfl ?_
        | refine awd_build rfl rfl rfl ?_
        | refine aw_block ?_
        | refine aw_skip ?_
        | refine aw_exit ?_
        | refine aw_ret ?_
        | refine aw_cond_t rfl ?_
        | refine aw_cond_f rfl ?_
        | refine awl_skip rfl rfl ?_
        | refine awd_skip rfl rfl ?_
        | refine bodyQ_ret [] true rfl rfl rfl ?_)
      refine awl_d rfl rfl (append_own rfl rfl rfl (.sl rfl) rfl rfl rfl rfl rfl (elemsP _) (show ElemsOk 2 [encP (at' m (i : Int))] from elemsP [_]) rfl (by simp [ty77]; omega) (by simp; omega)) ?_
      repeat (first
        | refine awl_p rfl rfl rfl ?_
        | refine awd_p rfl rfl rfl ?_
        | refine awl_nil ?_
        | refine awd_nil ?_
        | refine aw_seq ?_
        | refine aw_reg ?_
        | (refine aw_draw ?_ ?_; · kernel_rfl)
        | refine awl_load rfl rfl rfl ?_
        | refine awd_load rfl rfl rfl ?_
        | refine awd_loadp rfl rfl rfl ?_
        | refine awl_alloc rfl rfl rfl rfl ?_
        | refine awd_alloc rfl rfl rfl rfl ?_
        | refine awl_store rfl rfl ?_
        | refine awd_store rfl rfl ?_
        | refine awl_build rfl rfl rfl ?_
        | refine awd_build rfl rfl rfl ?_
        | refine aw_block ?_
        | refine aw_skip ?_
        | refine aw_exit ?_
        | refine aw_ret ?_
        | refine aw_cond_t rfl ?_
        | refine aw_cond_f rfl ?_
        | refine awl_skip rfl rfl ?_
        | refine awd_skip rfl rfl ?_
        | refine bodyQ_ret [] true rfl rfl rfl ?_)
      refine ⟨(i + 1, g + 1), by show i + 1 ≤ m.length; omega, by dsimp only; omega, true, _, _, _, rfl, rfl, rfl, ?_, ?_⟩
      · exact congrArg (fun z => [AVal.v (.int .i64 k), .arr 0 (g + 1), .sl (m.map encP), .v (.int .i64 m.length), .v (.int .i64 z)]) w1
      · dsimp only
        rw [ht, List.map_append]
        rfl
    · have h : (at' m (i : Int)).key = k := by simpa using h
      rw [if_pos h] at ht
      repeat (first
        | refine awl_p rfl rfl rfl ?_
        | refine awd_p rfl rfl rfl ?_
        | refine awl_nil ?_
        | refine awd_nil ?_
        | refine aw_seq ?_
        | refine aw_reg ?_
        | (refine aw_draw ?_ ?_; · kernel_rfl)
        | refine awl_load rfl rfl rfl ?_
        | refine awd_load rfl rfl rfl ?_
        | refine awd_loadp rfl rfl rfl ?_
        | refine awl_alloc rfl rfl rfl rfl ?_
        | refine awd_alloc rfl rfl rfl rfl ?_
        | refine awl_store rfl rfl ?_
        | refine awd_store rfl rfl ?_
        | refine awl_build rfl rfl rfl ?_
        | refine awd_build rfl rfl rfl ?_
        | refine aw_block ?_
        | refine aw_skip ?_
        | refine aw_exit ?_
        | refine aw_ret ?_
        | refine aw_cond_t rfl ?_
        | refine aw_cond_f rfl ?_
        | refine awl_skip rfl rfl ?_
        | refine awd_skip rfl rfl ?_
        | refine bodyQ_ret [] true rfl rfl rfl ?_)
      refine ⟨(i + 1, g), by show i + 1 ≤ m.length; omega, by dsimp only; omega, true, _, _, _, rfl, rfl, rfl, ?_, ?_⟩
      · exact congrArg (fun z => [AVal.v (.int .i64 k), .arr 0 g, .sl (m.map encP), .v (.int .i64 m.length), .v (.int .i64 z)]) w1
      · dsimp only
        rw [ht]
  · have h := of_decide_eq_false h
    dsimp only at h
    have hi2 : i = m.length := by omega
    subst hi2
    repeat (first
      | refine awl_p rfl rfl rfl ?_
      | refine awd_p rfl rfl rfl ?_
      | refine awl_nil ?_
      | refine awd_nil ?_
      | refine aw_seq ?_
      | refine aw_reg ?_
      | (refine aw_draw ?_ ?_; · kernel_rfl)
      | refine awl_load rfl rfl rfl ?_
      | refine awd_load rfl rfl rfl ?_
      | refine awd_loadp rfl rfl rfl ?_
      | refine awl_alloc rfl rfl rfl rfl ?_
      | refine awd_alloc rfl rfl rfl rfl ?_
      | refine awl_store rfl rfl ?_
      | refine awd_store rfl rfl ?_
      | refine awl_build rfl rfl rfl ?_
      | refine awd_build rfl rfl rfl ?_
      | refine aw_block ?_
      | refine aw_skip ?_
      | refine aw_exit ?_
      | refine aw_ret ?_
      | refine aw_cond_t rfl ?_
      | refine aw_cond_f rfl ?_
      | refine awl_skip rfl rfl ?_
      | refine awd_skip rfl rfl ?_
      | refine bodyQ_ret [] true rfl rfl rfl ?_)
    refine bodyQ_ret [] true rfl rfl (finish0_arr rfl) ?_
    refine one_ok ?_ rfl
    rw [List.take_length]

/-- a map in which a key has a value -/
def wiL (k v : Int) : List Pair → List Pair
  | [] => [⟨k, v⟩]
  | p :: l => if p.key > k then ⟨k, v⟩ :: p :: l else p :: wiL k v l
def wi (m : List Pair) (k v : Int) : List Pair := wiL k v (wo m k)
def rest (L : List Pair) (k v : Int) (i : Nat) (d : Bool) : List Pair := if d then L.drop i else wiL k v (L.drop i)
theorem rest_step {L : List Pair} {i : Nat} (h : i < L.length) (k v : Int) : rest L k v i false = if (at' L (i : Int)).key > k then ⟨k, v⟩ :: at' L (i : Int) :: rest L k v (i + 1) true else at' L (i : Int) :: rest L k v (i + 1) false := by
  unfold rest
  rw [at_nat L i h]
  simp only [if_true, Bool.false_eq_true, if_false]
  rw [List.drop_eq_getElem_cons h]
  rfl
theorem rest_true {L : List Pair} {i : Nat} (h : i < L.length) (k v : Int) : rest L k v i true = at' L (i : Int) :: rest L k v (i + 1) true := by
  unfold rest
  rw [at_nat L i h]
  simp only [if_true]
  rw [List.drop_eq_getElem_cons h]
theorem rest_end (L : List Pair) (k v : Int) (d : Bool) : rest L k v L.length d = if d then [] else [⟨k, v⟩] := by
  unfold rest
  simp [wiL]

set_option maxHeartbeats 4000000 in
theorem with_ok (m : List Pair) (k v : Int) (hm : m.length ≤ 1000000) : ACalls Try.prog 61 [.sl (m.map encP), .v (.int .i64 k), .v (.int .i64 v)] [] (one (.sl ((wi m k v).map encP)) []) := by
  have hwo := without_ok m k hm
  have hL : (wo m k).length ≤ 1000000 := Nat.le_trans (wo_len _ _) hm
  unfold wi
  generalize wo m k = L at hwo hL
  refine acalls_intro Try.func61 rfl (by kernel_rfl) Try.ntmps61 rfl rfl (fun w0 β0 ext hβ => ?_)
  repeat (first
    | refine awl_p rfl rfl rfl ?_
    | refine awd_p rfl rfl rfl ?_
    | refine awl_nil ?_
    | refine awd_nil ?_
    | refine aw_seq ?_
    | refine aw_reg ?_
    | (refine aw_draw ?_ ?_; · kernel_rfl)
    | refine awl_load rfl rfl rfl ?_
    | refine awd_load rfl rfl rfl ?_
    | refine awd_loadp rfl rfl rfl ?_
    | refine awl_alloc rfl rfl rfl rfl ?_
    | refine awd_alloc rfl rfl rfl rfl ?_
    | refine awl_store rfl rfl ?_
    | refine awd_store rfl rfl ?_
    | refine awl_build rfl rfl rfl ?_
    | refine awd_build rfl rfl rfl ?_
    | refine aw_block ?_
    | refine aw_skip ?_
    | refine aw_exit ?_
    | refine aw_ret ?_
    | refine aw_cond_t rfl ?_
    | refine aw_cond_f rfl ?_
    | refine awl_skip rfl rfl ?_
    | refine awd_skip rfl rfl ?_
    | refine bodyQ_ret [] true rfl rfl rfl ?_)
  refine awl_d rfl rfl (call_val rfl rfl hwo rfl (fun _ => rfl) (fun _ => rfl)) ?_
  repeat (first
    | refine awl_p rfl rfl rfl ?_
    | refine awd_p rfl rfl rfl ?_
    | refine awl_nil ?_
    | refine awd_nil ?_
    | refine aw_seq ?_
    | refine aw_reg ?_
    | (refine aw_draw ?_ ?_; · kernel_rfl)
    | refine awl_load rfl rfl rfl ?_
    | refine awd_load rfl rfl rfl ?_
    | refine awd_loadp rfl rfl rfl ?_
    | refine awl_alloc rfl rfl rfl rfl ?_
    | refine awd_alloc rfl rfl rfl rfl ?_
    | refine awl_store rfl rfl ?_
    | refine awd_store rfl rfl ?_
    | refine awl_build rfl rfl rfl ?_
    | refine awd_build rfl rfl rfl ?_
    | refine aw_block ?_
    | refine aw_skip ?_
    | refine aw_exit ?_
    | refine aw_ret ?_
    | refine aw_cond_t rfl ?_
    | refine aw_cond_f rfl ?_
    | refine awl_skip rfl rfl ?_
    | refine awd_skip rfl rfl ?_
    | refine bodyQ_ret [] true rfl rfl rfl ?_)
  refine aw_adopt [7] 77 2 rfl ?_
  refine aw_loopF (ι := Nat × Bool × List Pair × Nat) 1 (fun x => x.1 ≤ L.length ∧ x.2.2.1 ++ rest L k v x.1 x.2.1 = wiL k v L ∧ x.2.2.1.length = x.1 + (if x.2.1 then 1 else 0)) [1, 2, 7, 8, 14, 15, 16]
    (fun x => [.v (.int .i64 k), .v (.int .i64 v), .arr 0 x.2.2.2, .v (.bool x.2.1), .sl (L.map encP), .v (.int .i64 L.length), .v (.int .i64 x.1)]) (fun x => [.arr x.2.2.2 77 2 (x.2.2.1.map encP)]) (fun x => L.length - x.1) (0, false, [], 1) (by rw [hβ]; decide) ⟨by simp, by simp [rest], by simp⟩ (by simp; rfl) rfl ?_
  rintro ⟨i, d, out, g⟩ ⟨hi, hr, ho⟩
  dsimp only at hi hr ho
  repeat (first
    | refine awl_p rfl rfl rfl ?_
    | refine awd_p rfl rfl rfl ?_
    | refine awl_nil ?_
    | refine awd_nil ?_
    | refine aw_seq ?_
    | refine aw_reg ?_
    | (refine aw_draw ?_ ?_; · kernel_rfl)
    | refine awl_load rfl rfl rfl ?_
    | refine awd_load rfl rfl rfl ?_
    | refine awd_loadp rfl rfl rfl ?_
    | refine awl_alloc rfl rfl rfl rfl ?_
    | refine awd_alloc rfl rfl rfl rfl ?_
    | refine awl_store rfl rfl ?_
    | refine awd_store rfl rfl ?_
    | refine awl_build rfl rfl rfl ?_
    | refine awd_build rfl rfl rfl ?_
    | refine aw_block ?_
    | refine aw_skip ?_
    | refine aw_exit ?_
    | refine aw_ret ?_
    | refine aw_cond_t rfl ?_
    | refine aw_cond_f rfl ?_
    | refine awl_skip rfl rfl ?_
    | refine awd_skip rfl rfl ?_
    | refine bodyQ_ret [] true rfl rfl rfl ?_)
  refine aw_cond rfl (fun h => ?_) (fun h => ?_)
  · have h := of_decide_eq_true h
    dsimp only at h
    have hi1 : i < L.length := by omega
    have w1 : IntKind.i64.wrap ((i : Int) + 1) = ((i + 1 : Nat) : Int) := by rw [wrap_id] <;> omega
    repeat (first
      | refine awl_p rfl rfl rfl ?_
      | refine awd_p rfl rfl rfl ?_
      | refine awl_nil ?_
      | refine awd_nil ?_
      | refine aw_seq ?_
      | refine aw_reg ?_
      | (refine aw_draw ?_ ?_; · kernel_rfl)
      | refine awl_load rfl rfl rfl ?_
      | refine awd_load rfl rfl rfl ?_
      | refine awd_loadp rfl rfl rfl ?_
      | refine awl_alloc rfl rfl rfl rfl ?_
      | refine awd_alloc rfl rfl rfl rfl ?_
      | refine awl_store rfl rfl ?_
      | refine awd_store rfl rfl ?_
      | refine awl_build rfl rfl rfl ?_
      | refine awd_build rfl rfl rfl ?_
      | refine aw_block ?_
      | refine aw_skip ?_
      | refine aw_exit ?_
      | refine aw_ret ?_
      | refine aw_cond_t rfl ?_
      | refine aw_cond_f rfl ?_
      | refine awl_skip rfl rfl ?_
      | refine awd_skip rfl rfl ?_
      | refine bodyQ_ret [] true rfl rfl rfl ?_)
    refine awl_d rfl rfl (index_at rfl rfl rfl rfl rfl rfl rfl rfl (by dsimp only; omega) (by dsimp only; omega)) ?_
    cases d
    · simp only [Bool.false_eq_true, if_false] at ho
      rw [rest_step hi1] at hr
      repeat (first
        | refine awl_p rfl rfl rfl ?_
        | refine awd_p rfl rfl rfl ?_
        | refine awl_nil ?_
        | refine awd_nil ?_
        | refine aw_seq ?_
        | refine aw_reg ?_
        | (refine aw_draw ?_ ?_; · kernel_rfl)
        | refine awl_load rfl rfl rfl ?_
        | refine awd_load rfl rfl rfl ?_
        | refine awd_loadp rfl rfl rfl ?_
        | refine awl_alloc rfl rfl rfl rfl ?_
        | refine awd_alloc rfl rfl rfl rfl ?_
        | refine awl_store rfl rfl ?_
        | refine awd_store rfl rfl ?_
        | refine awl_build rfl rfl rfl ?_
        | refine awd_build rfl rfl rfl ?_
        | refine aw_block ?_
        | refine aw_skip ?_
        | refine aw_exit ?_
        | refine aw_ret ?_
        | refine aw_cond_t rfl ?_
        | refine aw_cond_f rfl ?_
        | refine awl_skip rfl rfl ?_
        | refine awd_skip rfl rfl ?_
        | refine bodyQ_ret [] true rfl rfl rfl ?_)
      refine aw_cond rfl (fun h => ?_) (fun h => ?_)
      · have h := of_decide_eq_true h
        rw [if_pos h] at hr
        repeat (first
          | refine awl_p rfl rfl rfl ?_
          | refine awd_p rfl rfl rfl ?_
          | refine awl_nil ?_
          | refine awd_nil ?_
          | refine aw_seq ?_
          | refine aw_reg ?_
          | (refine aw_draw ?_ ?_; · kernel_rfl)
          | refine awl_load rfl rfl rfl ?_
          | refine awd_load rfl rfl rfl ?_
          | refine awd_loadp rfl rfl rfl ?_
          | refine awl_alloc rfl rfl rfl rfl ?_
          | refine awd_alloc rfl rfl rfl rfl ?_
          | refine awl_store rfl rfl ?_
          | refine awd_store rfl rfl ?_
          | refine awl_build rfl rfl rfl ?_
          | refine awd_build rfl rfl rfl ?_
          | refine aw_block ?_
          | refine aw_skip ?_
          | refine aw_exit ?_
          | refine aw_ret ?_
          | refine aw_cond_t rfl ?_
          | refine aw_cond_f rfl ?_
          | refine awl_skip rfl rfl ?_
          | refine awd_skip rfl rfl ?_
          | refine bodyQ_ret [] true rfl rfl rfl ?_)
        refine awl_d rfl rfl (append_own rfl rfl rfl (.sl rfl) rfl rfl rfl rfl rfl (elemsP out) (show ElemsOk 2 [encP ⟨k, v⟩] from elemsP [_]) rfl (by simp [ty77]; omega) (by simp; omega)) ?_
        repeat (first
          | refine awl_p rfl rfl rfl ?_
          | refine awd_p rfl rfl rfl ?_
          | refine awl_nil ?_
          | refine awd_nil ?_
          | refine aw_seq ?_
          | refine aw_reg ?_
          | (refine aw_draw ?_ ?_; · kernel_rfl)
          | refine awl_load rfl rfl rfl ?_
          | refine awd_load rfl rfl rfl ?_
          | refine awd_loadp rfl rfl rfl ?_
          | refine awl_alloc rfl rfl rfl rfl ?_
          | refine awd_alloc rfl rfl rfl rfl ?_
          | refine awl_store rfl rfl ?_
          | refine awd_store rfl rfl ?_
          | refine awl_build rfl rfl rfl ?_
          | refine awd_build rfl rfl rfl ?_
          | refine aw_block ?_
          | refine aw_skip ?_
          | refine aw_exit ?_
          | refine aw_ret ?_
          | refine aw_cond_t rfl ?_
          | refine aw_cond_f rfl ?_
          | refine awl_skip rfl rfl ?_
          | refine awd_skip rfl rfl ?_
          | refine bodyQ_ret [] true rfl rfl rfl ?_)
        refine awl_d rfl rfl (append_own rfl rfl rfl (.sl rfl) rfl rfl rfl rfl rfl (show ElemsOk 2 (out.map encP ++ [encP ⟨k, v⟩]) from elems_append (elemsP out) (elemsP [_])) (show ElemsOk 2 [encP (at' L (i : Int))] from elemsP [_]) rfl (by simp [ty77]; omega) (by simp; omega)) ?_
        repeat (first
          | refine awl_p rfl rfl rfl ?_
          | refine awd_p rfl rfl rfl ?_
          | refine awl_nil ?_
          | refine awd_nil ?_
          | refine aw_seq ?_
          | refine aw_reg ?_
          | (refine aw_draw ?_ ?_; · kernel_rfl)
          | refine awl_load rfl rfl rfl ?_
          | refine awd_load rfl rfl rfl ?_
          | refine awd_loadp rfl rfl rfl ?_
          | refine awl_alloc rfl rfl rfl rfl ?_
          | refine awd_alloc rfl rfl rfl rfl ?_
          | refine awl_store rfl rfl ?_
          | refine awd_store rfl rfl ?_
          | refine awl_build rfl rfl rfl ?_
          | refine awd_build rfl rfl rfl ?_
          | refine aw_block ?_
          | refine aw_skip ?_
          | refine aw_exit ?_
          | refine aw_ret ?_
          | refine aw_cond_t rfl ?_
          | refine aw_cond_f rfl ?_
          | refine awl_skip rfl rfl ?_
          | refine awd_skip rfl rfl ?_
          | refine bodyQ_ret [] true rfl rfl rfl ?_)
        refine ⟨(i + 1, true, out ++ [⟨k, v⟩] ++ [at' L (i : Int)], g + 1 + 1), ⟨by show i + 1 ≤ L.length; omega, by dsimp only; rw [← hr]; simp, by simp; omega⟩, by dsimp only; omega, true, _, _, _, rfl, rfl, rfl, ?_, ?_⟩
        · exact congrArg (fun z => [AVal.v (.int .i64 k), .v (.int .i64 v), .arr 0 (g + 1 + 1), .v (.bool true), .sl (L.map encP), .v (.int .i64 L.length), .v (.int .i64 z)]) w1
        · dsimp only
          rw [List.map_append, List.map_append]
          rfl
      · have h := of_decide_eq_false h
        rw [if_neg h] at hr
        repeat (first
          | refine awl_p rfl rfl rfl ?_
          | refine awd_p rfl rfl rfl ?_
          | refine awl_nil ?_
          | refine awd_nil ?_
          | refine aw_seq ?_
          | refine aw_reg ?_
          | (refine aw_draw ?_ ?_; · kernel_rfl)
          | refine awl_load rfl rfl rfl ?_
          | refine awd_load rfl rfl rfl ?_
          | refine awd_loadp rfl rfl rfl ?_
          | refine awl_alloc rfl rfl rfl rfl ?_
          | refine awd_alloc rfl rfl rfl rfl ?_
          | refine awl_store rfl rfl ?_
          | refine awd_store rfl rfl ?_
          | refine awl_build rfl rfl rfl ?_
          | refine awd_build rfl rfl rfl ?_
          | refine aw_block ?_
          | refine aw_skip ?_
          | refine aw_exit ?_
          | refine aw_ret ?_
          | refine aw_cond_t rfl ?_
          | refine aw_cond_f rfl ?_
          | refine awl_skip rfl rfl ?_
          | refine awd_skip rfl rfl ?_
          | refine bodyQ_ret [] true rfl rfl rfl ?_)
        refine awl_d rfl rfl (append_own rfl rfl rfl (.sl rfl) rfl rfl rfl rfl rfl (elemsP out) (show ElemsOk 2 [encP (at' L (i : Int))] from elemsP [_]) rfl (by simp [ty77]; omega) (by simp; omega)) ?_
        repeat (first
          | refine awl_p rfl rfl rfl ?_
          | refine awd_p rfl rfl rfl ?_
          | refine awl_nil ?_
          | refine awd_nil ?_
          | refine aw_seq ?_
          | refine aw_reg ?_
          | (refine aw_draw ?_ ?_; · kernel_rfl)
          | refine awl_load rfl rfl rfl ?_
          | refine awd_load rfl rfl rfl ?_
          | refine awd_loadp rfl rfl rfl ?_
          | refine awl_alloc rfl rfl rfl rfl ?_
          | refine awd_alloc rfl rfl rfl rfl ?_
          | refine awl_store rfl rfl ?_
          | refine awd_store rfl rfl ?_
          | refine awl_build rfl rfl rfl ?_
          | refine awd_build rfl rfl rfl ?_
          | refine aw_block ?_
          | refine aw_skip ?_
          | refine aw_exit ?_
          | refine aw_ret ?_
          | refine aw_cond_t rfl ?_
          | refine aw_cond_f rfl ?_
          | refine awl_skip rfl rfl ?_
          | refine awd_skip rfl rfl ?_
          | refine bodyQ_ret [] true rfl rfl rfl ?_)
        refine ⟨(i + 1, false, out ++ [at' L (i : Int)], g + 1), ⟨by show i + 1 ≤ L.length; omega, by dsimp only; rw [← hr]; simp, by simp; omega⟩, by dsimp only; omega, true, _, _, _, rfl, rfl, rfl, ?_, ?_⟩
        · exact congrArg (fun z => [AVal.v (.int .i64 k), .v (.int .i64 v), .arr 0 (g + 1), .v (.bool false), .sl (L.map encP), .v (.int .i64 L.length), .v (.int .i64 z)]) w1
        · dsimp only
          rw [List.map_append]
          rfl
    · simp only [if_true] at ho
      rw [rest_true hi1] at hr
      repeat (first
        | refine awl_p rfl rfl rfl ?_
        | refine awd_p rfl rfl rfl ?_
        | refine awl_nil ?_
        | refine awd_nil ?_
        | refine aw_seq ?_
        | refine aw_reg ?_
        | (refine aw_draw ?_ ?_; · kernel_rfl)
        | refine awl_load rfl rfl rfl ?_
        | refine awd_load rfl rfl rfl ?_
        | refine awd_loadp rfl rfl rfl ?_
        | refine awl_alloc rfl rfl rfl rfl ?_
        | refine awd_alloc rfl rfl rfl rfl ?_
        | refine awl_store rfl rfl ?_
        | refine awd_store rfl rfl ?_
        | refine awl_build rfl rfl rfl ?_
        | refine awd_build rfl rfl rfl ?_
        | refine aw_block ?_
        | refine aw_skip ?_
        | refine aw_exit ?_
        | refine aw_ret ?_
        | refine aw_cond_t rfl ?_
        | refine aw_cond_f rfl ?_
        | refine awl_skip rfl rfl ?_
        | refine awd_skip rfl rfl ?_
        | refine bodyQ_ret [] true rfl rfl rfl ?_)
      refine awl_d rfl rfl (append_own rfl rfl rfl (.sl rfl) rfl rfl rfl rfl rfl (elemsP out) (show ElemsOk 2 [encP (at' L (i : Int))] from elemsP [_]) rfl (by simp [ty77]; omega) (by simp; omega)) ?_
      repeat (first
        | refine awl_p rfl rfl rfl ?_
        | refine awd_p rfl rfl rfl ?_
        | refine awl_nil ?_
        | refine awd_nil ?_
        | refine aw_seq ?_
        | refine aw_reg ?_
        | (refine aw_draw ?_ ?_; · kernel_rfl)
        | refine awl_load rfl rfl rfl ?_
        | refine awd_load rfl rfl rfl ?_
        | refine awd_loadp rfl rfl rfl ?_
        | refine awl_alloc rfl rfl rfl rfl ?_
        | refine awd_alloc rfl rfl rfl rfl ?_
        | refine awl_store rfl rfl ?_
        | refine awd_store rfl rfl ?_
        | refine awl_build rfl rfl rfl ?_
        | refine awd_build rfl rfl rfl ?_
        | refine aw_block ?_
        | refine aw_skip ?_
        | refine aw_exit ?_
        | refine aw_ret ?_
        | refine aw_cond_t rfl ?_
        | refine aw_cond_f rfl ?_
        | refine awl_skip rfl rfl ?_
        | refine awd_skip rfl rfl ?_
        | refine bodyQ_ret [] true rfl rfl rfl ?_)
      refine ⟨(i + 1, true, out ++ [at' L (i : Int)], g + 1), ⟨by show i + 1 ≤ L.length; omega, by dsimp only; rw [← hr]; simp, by simp; omega⟩, by dsimp only; omega, true, _, _, _, rfl, rfl, rfl, ?_, ?_⟩
      · exact congrArg (fun z => [AVal.v (.int .i64 k), .v (.int .i64 v), .arr 0 (g + 1), .v (.bool true), .sl (L.map encP), .v (.int .i64 L.length), .v (.int .i64 z)]) w1
      · dsimp only
        rw [List.map_append]
        rfl
  · have h := of_decide_eq_false h
    dsimp only at h
    have hi2 : i = L.length := by omega
    subst hi2
    rw [rest_end] at hr
    cases d
    · repeat (first
        | refine awl_p rfl rfl rfl ?_
        | refine awd_p rfl rfl rfl ?_
        | refine awl_nil ?_
        | refine awd_nil ?_
        | refine aw_seq ?_
        | refine aw_reg ?_
        | (refine aw_draw ?_ ?_; · kernel_rfl)
        | refine awl_load rfl rfl rfl ?_
        | refine awd_load rfl rfl rfl ?_
        | refine awd_loadp rfl rfl rfl ?_
        | refine awl_alloc rfl rfl rfl rfl ?_
        | refine awd_alloc rfl rfl rfl rfl ?_
        | refine awl_store rfl rfl ?_
        | refine awd_store rfl rfl ?_
        | refine awl_build rfl rfl rfl ?_
        | refine awd_build rfl rfl rfl ?_
        | refine aw_block ?_
        | refine aw_skip ?_
        | refine aw_exit ?_
        | refine aw_ret ?_
        | refine aw_cond_t rfl ?_
        | refine aw_cond_f rfl ?_
        | refine awl_skip rfl rfl ?_
        | refine awd_skip rfl rfl ?_
        | refine bodyQ_ret [] true rfl rfl rfl ?_)
      simp only [Bool.false_eq_true, if_false] at ho hr
      refine awl_d rfl rfl (append_own rfl rfl rfl (.sl rfl) rfl rfl rfl rfl rfl (elemsP out) (show ElemsOk 2 [encP ⟨k, v⟩] from elemsP [_]) rfl (by simp [ty77]; omega) (by simp; omega)) ?_
      repeat (first
        | refine awl_p rfl rfl rfl ?_
        | refine awd_p rfl rfl rfl ?_
        | refine awl_nil ?_
        | refine awd_nil ?_
        | refine aw_seq ?_
        | refine aw_reg ?_
        | (refine aw_draw ?_ ?_; · kernel_rfl)
        | refine awl_load rfl rfl rfl ?_
        | refine awd_load rfl rfl rfl ?_
        | refine awd_loadp rfl rfl rfl ?_
        | refine awl_alloc rfl rfl rfl rfl ?_
        | refine awd_alloc rfl rfl rfl rfl ?_
        | refine awl_store rfl rfl ?_
        | refine awd_store rfl rfl ?_
        | refine awl_build rfl rfl rfl ?_
        | refine awd_build rfl rfl rfl ?_
        | refine aw_block ?_
        | refine aw_skip ?_
        | refine aw_exit ?_
        | refine aw_ret ?_
        | refine aw_cond_t rfl ?_
        | refine aw_cond_f rfl ?_
        | refine awl_skip rfl rfl ?_
        | refine awd_skip rfl rfl ?_
        | refine bodyQ_ret [] true rfl rfl rfl ?_)
      refine bodyQ_ret [] true rfl rfl (finish0_arr rfl) ?_
      refine one_ok ?_ rfl
      rw [← hr, List.map_append]
      rfl
    · repeat (first
        | refine awl_p rfl rfl rfl ?_
        | refine awd_p rfl rfl rfl ?_
        | refine awl_nil ?_
        | refine awd_nil ?_
        | refine aw_seq ?_
        | refine aw_reg ?_
        | (refine aw_draw ?_ ?_; · kernel_rfl)
        | refine awl_load rfl rfl rfl ?_
        | refine awd_load rfl rfl rfl ?_
        | refine awd_loadp rfl rfl rfl ?_
        | refine awl_alloc rfl rfl rfl rfl ?_
        | refine awd_alloc rfl rfl rfl rfl ?_
        | refine awl_store rfl rfl ?_
        | refine awd_store rfl rfl ?_
        | refine awl_build rfl rfl rfl ?_
        | refine awd_build rfl rfl rfl ?_
        | refine aw_block ?_
        | refine aw_skip ?_
        | refine aw_exit ?_
        | refine aw_ret ?_
        | refine aw_cond_t rfl ?_
        | refine aw_cond_f rfl ?_
        | refine awl_skip rfl rfl ?_
        | refine awd_skip rfl rfl ?_
        | refine bodyQ_ret [] true rfl rfl rfl ?_)
      simp only [if_true] at ho hr
      refine bodyQ_ret [] true rfl rfl (finish0_arr rfl) ?_
      refine one_ok ?_ rfl
      rw [← hr, List.append_nil]

def rputS (m : List Pair) (k v : Int) : List Pair × Reply := if (wi m k v).length > 12 then (m, ⟨14, 0⟩) else (wi m k v, ⟨0, 0⟩)
theorem rput_ok (m : List Pair) (k v : Int) (hm : m.length ≤ 1000000) : ACalls Try.prog 39 [.sl (m.map encP), .v (.int .i64 k), .v (.int .i64 v)] [] (one (.tup [.sl ((rputS m k v).1.map encP), encR (rputS m k v).2]) []) := by
  have hwi := with_ok m k v hm
  unfold rputS
  generalize wi m k v = W at hwi
  by_cases hc : W.length > 12
  · rw [if_pos hc]
    refine acalls_intro Try.func39 rfl (by kernel_rfl) Try.ntmps39 rfl rfl (fun w0 β0 ext hβ => ?_)
    repeat' (first
      | refine one_ok ?_ rfl
      | refine awl_p rfl rfl rfl ?_
      | refine awd_p rfl rfl rfl ?_
      | refine awl_nil ?_
      | refine awd_nil ?_
      | refine aw_seq ?_
      | refine aw_reg ?_
      | (refine aw_draw ?_ ?_; · kernel_rfl)
      | refine awl_load rfl rfl rfl ?_
      | refine awd_load rfl rfl rfl ?_
      | refine awd_loadp rfl rfl rfl ?_
      | refine awl_alloc rfl rfl rfl rfl ?_
      | refine awd_alloc rfl rfl rfl rfl ?_
      | refine awl_store rfl rfl ?_
      | refine awd_store rfl rfl ?_
      | refine awl_build rfl rfl rfl ?_
      | refine awd_build rfl rfl rfl ?_
      | refine aw_block ?_
      | refine aw_skip ?_
      | refine aw_exit ?_
      | refine aw_ret ?_
      | refine aw_cond_t rfl ?_
      | refine aw_cond_f rfl ?_
      | refine awl_skip rfl rfl ?_
      | refine awd_skip rfl rfl ?_
      | refine awl_d rfl rfl (call_val rfl rfl (hwi) rfl (fun _ => rfl) (fun _ => rfl)) ?_
      | refine awd_d rfl rfl (call_val rfl rfl (hwi) rfl (fun _ => rfl) (fun _ => rfl)) ?_
      | (refine awl_g rfl rfl (fun h => ?_) (fun h => ?_) <;> (try simp only [decide_eq_true_eq, decide_eq_false_iff_not, beq_iff_eq, beq_eq_false_iff_ne, bne_iff_ne, bne_eq_false_iff_eq, ne_eq] at h) <;> (try (exfalso; omega)))
      | (refine awd_g rfl rfl (fun h => ?_) (fun h => ?_) <;> (try simp only [decide_eq_true_eq, decide_eq_false_iff_not, beq_iff_eq, beq_eq_false_iff_ne, bne_iff_ne, bne_eq_false_iff_eq, ne_eq] at h) <;> (try (exfalso; omega)))
      | (refine aw_condS rfl (fun h => ?_) (fun h => ?_) <;> (try simp only [decide_eq_true_eq, decide_eq_false_iff_not, beq_iff_eq, beq_eq_false_iff_ne, bne_iff_ne, bne_eq_false_iff_eq, ne_eq] at h) <;> (try (exfalso; omega)))
      | refine awl_d rfl rfl (index_at rfl rfl rfl rfl rfl rfl rfl rfl (by omega) (by omega)) ?_
      | refine awd_d rfl rfl (index_at rfl rfl rfl rfl rfl rfl rfl rfl (by omega) (by omega)) ?_
      | refine bodyQ_ret [] true rfl rfl rfl ?_)
    all_goals first | rfl | (exfalso; simp only [List.length_map] at *; omega)
  · rw [if_neg hc]
    refine acalls_intro Try.func39 rfl (by kernel_rfl) Try.ntmps39 rfl rfl (fun w0 β0 ext hβ => ?_)
    repeat' (first
      | refine one_ok ?_ rfl
      | refine awl_p rfl rfl rfl ?_
      | refine awd_p rfl rfl rfl ?_
      | refine awl_nil ?_
      | refine awd_nil ?_
      | refine aw_seq ?_
      | refine aw_reg ?_
      | (refine aw_draw ?_ ?_; · kernel_rfl)
      | refine awl_load rfl rfl rfl ?_
      | refine awd_load rfl rfl rfl ?_
      | refine awd_loadp rfl rfl rfl ?_
      | refine awl_alloc rfl rfl rfl rfl ?_
      | refine awd_alloc rfl rfl rfl rfl ?_
      | refine awl_store rfl rfl ?_
      | refine awd_store rfl rfl ?_
      | refine awl_build rfl rfl rfl ?_
      | refine awd_build rfl rfl rfl ?_
      | refine aw_block ?_
      | refine aw_skip ?_
      | refine aw_exit ?_
      | refine aw_ret ?_
      | refine aw_cond_t rfl ?_
      | refine aw_cond_f rfl ?_
      | refine awl_skip rfl rfl ?_
      | refine awd_skip rfl rfl ?_
      | refine awl_d rfl rfl (call_val rfl rfl (hwi) rfl (fun _ => rfl) (fun _ => rfl)) ?_
      | refine awd_d rfl rfl (call_val rfl rfl (hwi) rfl (fun _ => rfl) (fun _ => rfl)) ?_
      | (refine awl_g rfl rfl (fun h => ?_) (fun h => ?_) <;> (try simp only [decide_eq_true_eq, decide_eq_false_iff_not, beq_iff_eq, beq_eq_false_iff_ne, bne_iff_ne, bne_eq_false_iff_eq, ne_eq] at h) <;> (try (exfalso; omega)))
      | (refine awd_g rfl rfl (fun h => ?_) (fun h => ?_) <;> (try simp only [decide_eq_true_eq, decide_eq_false_iff_not, beq_iff_eq, beq_eq_false_iff_ne, bne_iff_ne, bne_eq_false_iff_eq, ne_eq] at h) <;> (try (exfalso; omega)))
      | (refine aw_condS rfl (fun h => ?_) (fun h => ?_) <;> (try simp only [decide_eq_true_eq, decide_eq_false_iff_not, beq_iff_eq, beq_eq_false_iff_ne, bne_iff_ne, bne_eq_false_iff_eq, ne_eq] at h) <;> (try (exfalso; omega)))
      | refine awl_d rfl rfl (index_at rfl rfl rfl rfl rfl rfl rfl rfl (by omega) (by omega)) ?_
      | refine awd_d rfl rfl (index_at rfl rfl rfl rfl rfl rfl rfl rfl (by omega) (by omega)) ?_
      | refine bodyQ_ret [] true rfl rfl rfl ?_)
    all_goals first | rfl | (exfalso; simp only [List.length_map] at *; omega)
end Go.AL
