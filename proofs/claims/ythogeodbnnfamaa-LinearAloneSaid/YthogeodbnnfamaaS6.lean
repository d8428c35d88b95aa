/-
  The reference for the package atomic. No conditions.
-/
import Derived.Test.YthogeodbnnfamaaS5
import Derived.Test.YthogeodbnnfamaaL3
set_option linter.unusedVariables false
set_option linter.unusedSimpArgs false
set_option maxRecDepth 100000
namespace Go.AL
open Go Go.Proofs
attribute [local irreducible] AWL AWD AW inB

theorem rright_ok (m : List Pair) (hm : m.length ≤ 1000000) : ACalls Try.prog 14 [.sl (m.map encP)] [] (one (.v (.bool (right m))) []) := by
  by_cases h0 : m = []
  · subst h0
    refine acalls_intro Try.func14 rfl (by kernel_rfl) Try.ntmps14 rfl rfl (fun w0 β0 ext hβ => ?_)
    repeat (first
      | refine awl_p rfl rfl rfl ?_
      | refine awd_p rfl rfl rfl ?_
      | refine awl_nil ?_
      | refine awd_nil ?_
      | refine aw_seq ?_
      | refine aw_reg ?_
      | (refine aw_draw ?_ ?_; · kernel_rfl)
      | refine awl_load rfl rfl rfl ?_
      | refine awd_load rfl rfl rfl ?_
      | refine awd_loadp rfl rfl rfl ?_
      | refine awl_alloc rfl rfl rfl rfl ?_
      | refine awd_alloc rfl rfl rfl rfl ?_
      | refine awl_store rfl rfl ?_
      | refine awd_store rfl rfl ?_
      | refine awl_build rfl rfl rfl ?_
      | refine awd_build rfl rfl rfl ?_
      | refine aw_block ?_
      | refine aw_skip ?_
      | refine aw_exit ?_
      | refine aw_ret ?_
      | refine aw_cond_t rfl ?_
      | refine aw_cond_f rfl ?_
      | refine awl_skip rfl rfl ?_
      | refine awd_skip rfl rfl ?_
      | refine bodyQ_ret [] true rfl rfl rfl ?_)
    refine aw_loop (ι := Unit) [0, 5, 6, 7] (fun _ => [.sl [], .sl [], .v (.int .i64 0), .v (.int .i64 0)]) (fun _ => []) (fun _ => 0) () rfl rfl ?_
    rintro ⟨⟩
    repeat (first
      | refine awl_p rfl rfl rfl ?_
      | refine awd_p rfl rfl rfl ?_
      | refine awl_nil ?_
      | refine awd_nil ?_
      | refine aw_seq ?_
      | refine aw_reg ?_
      | (refine aw_draw ?_ ?_; · kernel_rfl)
      | refine awl_load rfl rfl rfl ?_
      | refine awd_load rfl rfl rfl ?_
      | refine awd_loadp rfl rfl rfl ?_
      | refine awl_alloc rfl rfl rfl rfl ?_
      | refine awd_alloc rfl rfl rfl rfl ?_
      | refine awl_store rfl rfl ?_
      | refine awd_store rfl rfl ?_
      | refine awl_build rfl rfl rfl ?_
      | refine awd_build rfl rfl rfl ?_
      | refine aw_block ?_
      | refine aw_skip ?_
      | refine aw_exit ?_
      | refine aw_ret ?_
      | refine aw_cond_t rfl ?_
      | refine aw_cond_f rfl ?_
      | refine awl_skip rfl rfl ?_
      | refine awd_skip rfl rfl ?_
      | refine bodyQ_ret [] true rfl rfl rfl ?_)
    exact one_ok rfl rfl
  have hpos : 0 < m.length := List.length_pos_iff.2 h0
  refine acalls_intro Try.func14 rfl (by kernel_rfl) Try.ntmps14 rfl rfl (fun w0 β0 ext hβ => ?_)
  repeat (first
    | refine awl_p rfl rfl rfl ?_
    | refine awd_p rfl rfl rfl ?_
    | refine awl_nil ?_
    | refine awd_nil ?_
    | refine aw_seq ?_
    | refine aw_reg ?_
    | (refine aw_draw ?_ ?_; · kernel_rfl)
    | refine awl_load rfl rfl rfl ?_
    | refine awd_load rfl rfl rfl ?_
    | refine awd_loadp rfl rfl rfl ?_
    | refine awl_alloc rfl rfl rfl rfl ?_
    | refine awd_alloc rfl rfl rfl rfl ?_
    | refine awl_store rfl rfl ?_
    | refine awd_store rfl rfl ?_
    | refine awl_build rfl rfl rfl ?_
    | refine awd_build rfl rfl rfl ?_
    | refine aw_block ?_
    | refine aw_skip ?_
    | refine aw_exit ?_
    | refine aw_ret ?_
    | refine aw_cond_t rfl ?_
    | refine aw_cond_f rfl ?_
    | refine awl_skip rfl rfl ?_
    | refine awd_skip rfl rfl ?_
    | refine bodyQ_ret [] true rfl rfl rfl ?_)
  refine aw_loopF (ι := Nat) 0 (fun k => (k = 0 ∨ 1 ≤ k ∧ risesFrom m (m.length - 1) 1 = risesFrom m (m.length - k) k) ∧ k ≤ m.length) [0, 5, 6, 7] (fun k => [.sl (m.map encP), .sl (m.map encP), .v (.int .i64 m.length), .v (.int .i64 k)]) (fun _ => []) (fun k => m.length - k) 0 (Nat.le_of_eq hβ) ⟨.inl rfl, by omega⟩ (by simp; rfl) rfl ?_
  rintro k ⟨hk, hkl⟩
  repeat (first
    | refine awl_p rfl rfl rfl ?_
    | refine awd_p rfl rfl rfl ?_
    | refine awl_nil ?_
    | refine awd_nil ?_
    | refine aw_seq ?_
    | refine aw_reg ?_
    | (refine aw_draw ?_ ?_; · kernel_rfl)
    | refine awl_load rfl rfl rfl ?_
    | refine awd_load rfl rfl rfl ?_
    | refine awd_loadp rfl rfl rfl ?_
    | refine awl_alloc rfl rfl rfl rfl ?_
    | refine awd_alloc rfl rfl rfl rfl ?_
    | refine awl_store rfl rfl ?_
    | refine awd_store rfl rfl ?_
    | refine awl_build rfl rfl rfl ?_
    | refine awd_build rfl rfl rfl ?_
    | refine aw_block ?_
    | refine aw_skip ?_
    | refine aw_exit ?_
    | refine aw_ret ?_
    | refine aw_cond_t rfl ?_
    | refine aw_cond_f rfl ?_
    | refine awl_skip rfl rfl ?_
    | refine awd_skip rfl rfl ?_
    | refine bodyQ_ret [] true rfl rfl rfl ?_)
  refine aw_cond rfl (fun h => ?_) (fun h => ?_)
  · have h := of_decide_eq_true h
    have hk1 : k < m.length := by omega
    repeat (first
      | refine awl_p rfl rfl rfl ?_
      | refine awd_p rfl rfl rfl ?_
      | refine awl_nil ?_
      | refine awd_nil ?_
      | refine aw_seq ?_
      | refine aw_reg ?_
      | (refine aw_draw ?_ ?_; · kernel_rfl)
      | refine awl_load rfl rfl rfl ?_
      | refine awd_load rfl rfl rfl ?_
      | refine awd_loadp rfl rfl rfl ?_
      | refine awl_alloc rfl rfl rfl rfl ?_
      | refine awd_alloc rfl rfl rfl rfl ?_
      | refine awl_store rfl rfl ?_
      | refine awd_store rfl rfl ?_
      | refine awl_build rfl rfl rfl ?_
      | refine awd_build rfl rfl rfl ?_
      | refine aw_block ?_
      | refine aw_skip ?_
      | refine aw_exit ?_
      | refine aw_ret ?_
      | refine aw_cond_t rfl ?_
      | refine aw_cond_f rfl ?_
      | refine awl_skip rfl rfl ?_
      | refine awd_skip rfl rfl ?_
      | refine bodyQ_ret [] true rfl rfl rfl ?_)
    refine awl_d rfl rfl (index_at rfl rfl rfl rfl rfl rfl rfl rfl (by omega) (by omega)) ?_
    have w1 : IntKind.i64.wrap ((k : Int) + 1) = ((k + 1 : Nat) : Int) := by rw [wrap_id] <;> omega
    rcases hk with rfl | ⟨h2, h3⟩
    · repeat (first
        | refine awl_p rfl rfl rfl ?_
        | refine awd_p rfl rfl rfl ?_
        | refine awl_nil ?_
        | refine awd_nil ?_
        | refine aw_seq ?_
        | refine aw_reg ?_
        | (refine aw_draw ?_ ?_; · kernel_rfl)
        | refine awl_load rfl rfl rfl ?_
        | refine awd_load rfl rfl rfl ?_
        | refine awd_loadp rfl rfl rfl ?_
        | refine awl_alloc rfl rfl rfl rfl ?_
        | refine awd_alloc rfl rfl rfl rfl ?_
        | refine awl_store rfl rfl ?_
        | refine awd_store rfl rfl ?_
        | refine awl_build rfl rfl rfl ?_
        | refine awd_build rfl rfl rfl ?_
        | refine aw_block ?_
        | refine aw_skip ?_
        | refine aw_exit ?_
        | refine aw_ret ?_
        | refine aw_cond_t rfl ?_
        | refine aw_cond_f rfl ?_
        | refine awl_skip rfl rfl ?_
        | refine awd_skip rfl rfl ?_
        | refine bodyQ_ret [] true rfl rfl rfl ?_)
      exact ⟨1, ⟨.inr ⟨by omega, rfl⟩, by omega⟩, by dsimp only; omega, true, _, _, _, rfl, rfl, rfl, rfl, rfl⟩
    · repeat (first
        | refine awl_p rfl rfl rfl ?_
        | refine awd_p rfl rfl rfl ?_
        | refine awl_nil ?_
        | refine awd_nil ?_
        | refine aw_seq ?_
        | refine aw_reg ?_
        | (refine aw_draw ?_ ?_; · kernel_rfl)
        | refine awl_load rfl rfl rfl ?_
        | refine awd_load rfl rfl rfl ?_
        | refine awd_loadp rfl rfl rfl ?_
        | refine awl_alloc rfl rfl rfl rfl ?_
        | refine awd_alloc rfl rfl rfl rfl ?_
        | refine awl_store rfl rfl ?_
        | refine awd_store rfl rfl ?_
        | refine awl_build rfl rfl rfl ?_
        | refine awd_build rfl rfl rfl ?_
        | refine aw_block ?_
        | refine aw_skip ?_
        | refine aw_exit ?_
        | refine aw_ret ?_
        | refine aw_cond_t rfl ?_
        | refine aw_cond_f rfl ?_
        | refine awl_skip rfl rfl ?_
        | refine awd_skip rfl rfl ?_)
      refine awd_g rfl rfl (fun h => ?_) (fun h => absurd (of_decide_eq_false h) (by omega))
      repeat (first
        | refine awl_p rfl rfl rfl ?_
        | refine awd_p rfl rfl rfl ?_
        | refine awl_nil ?_
        | refine awd_nil ?_
        | refine aw_seq ?_
        | refine aw_reg ?_
        | (refine aw_draw ?_ ?_; · kernel_rfl)
        | refine awl_load rfl rfl rfl ?_
        | refine awd_load rfl rfl rfl ?_
        | refine awd_loadp rfl rfl rfl ?_
        | refine awl_alloc rfl rfl rfl rfl ?_
        | refine awd_alloc rfl rfl rfl rfl ?_
        | refine awl_store rfl rfl ?_
        | refine awd_store rfl rfl ?_
        | refine awl_build rfl rfl rfl ?_
        | refine awd_build rfl rfl rfl ?_
        | refine aw_block ?_
        | refine aw_skip ?_
        | refine aw_exit ?_
        | refine aw_ret ?_
        | refine aw_cond_t rfl ?_
        | refine aw_cond_f rfl ?_
        | refine awl_skip rfl rfl ?_
        | refine awd_skip rfl rfl ?_)
      have w2 : IntKind.i64.wrap ((k : Int) - 1) = ((k - 1 : Nat) : Int) := by rw [wrap_id] <;> omega
      refine awd_re 17 rfl (int_re w2) ?_
      refine awd_d rfl rfl (index_at rfl rfl rfl rfl rfl rfl rfl rfl (by omega) (by omega)) ?_
      repeat (first
        | refine awl_p rfl rfl rfl ?_
        | refine awd_p rfl rfl rfl ?_
        | refine awl_nil ?_
        | refine awd_nil ?_
        | refine aw_seq ?_
        | refine aw_reg ?_
        | (refine aw_draw ?_ ?_; · kernel_rfl)
        | refine awl_load rfl rfl rfl ?_
        | refine awd_load rfl rfl rfl ?_
        | refine awd_loadp rfl rfl rfl ?_
        | refine awl_alloc rfl rfl rfl rfl ?_
        | refine awd_alloc rfl rfl rfl rfl ?_
        | refine awl_store rfl rfl ?_
        | refine awd_store rfl rfl ?_
        | refine awl_build rfl rfl rfl ?_
        | refine awd_build rfl rfl rfl ?_
        | refine aw_block ?_
        | refine aw_skip ?_
        | refine aw_exit ?_
        | refine aw_ret ?_
        | refine aw_cond_t rfl ?_
        | refine aw_cond_f rfl ?_
        | refine awl_skip rfl rfl ?_
        | refine awd_skip rfl rfl ?_)
      have hd : m.length - k = (m.length - (k + 1)) + 1 := by omega
      have hr2 : risesFrom m (m.length - k) k = if (at' m ((k - 1 : Nat) : Int)).key ≥ (at' m (k : Int)).key then false else risesFrom m (m.length - (k + 1)) (k + 1) := by
        rw [hd, at_nat m (k - 1) (by omega), at_nat m k hk1]
        simp only [risesFrom, List.getElem?_eq_getElem (show k - 1 < m.length by omega), List.getElem?_eq_getElem hk1]
      refine aw_cond rfl (fun h => ?_) (fun h => ?_)
      · repeat (first
          | refine awl_p rfl rfl rfl ?_
          | refine awd_p rfl rfl rfl ?_
          | refine awl_nil ?_
          | refine awd_nil ?_
          | refine aw_seq ?_
          | refine aw_reg ?_
          | (refine aw_draw ?_ ?_; · kernel_rfl)
          | refine awl_load rfl rfl rfl ?_
          | refine awd_load rfl rfl rfl ?_
          | refine awd_loadp rfl rfl rfl ?_
          | refine awl_alloc rfl rfl rfl rfl ?_
          | refine awd_alloc rfl rfl rfl rfl ?_
          | refine awl_store rfl rfl ?_
          | refine awd_store rfl rfl ?_
          | refine awl_build rfl rfl rfl ?_
          | refine awd_build rfl rfl rfl ?_
          | refine aw_block ?_
          | refine aw_skip ?_
          | refine aw_exit ?_
          | refine aw_ret ?_
          | refine aw_cond_t rfl ?_
          | refine aw_cond_f rfl ?_
          | refine awl_skip rfl rfl ?_
          | refine awd_skip rfl rfl ?_
          | refine bodyQ_ret [] true rfl rfl rfl ?_)
        refine one_ok ?_ rfl
        have h := of_decide_eq_true h
        unfold right
        rw [h3, hr2, if_pos h]; rfl
      · have h := of_decide_eq_false h
        repeat (first
          | refine awl_p rfl rfl rfl ?_
          | refine awd_p rfl rfl rfl ?_
          | refine awl_nil ?_
          | refine awd_nil ?_
          | refine aw_seq ?_
          | refine aw_reg ?_
          | (refine aw_draw ?_ ?_; · kernel_rfl)
          | refine awl_load rfl rfl rfl ?_
          | refine awd_load rfl rfl rfl ?_
          | refine awd_loadp rfl rfl rfl ?_
          | refine awl_alloc rfl rfl rfl rfl ?_
          | refine awd_alloc rfl rfl rfl rfl ?_
          | refine awl_store rfl rfl ?_
          | refine awd_store rfl rfl ?_
          | refine awl_build rfl rfl rfl ?_
          | refine awd_build rfl rfl rfl ?_
          | refine aw_block ?_
          | refine aw_skip ?_
          | refine aw_exit ?_
          | refine aw_ret ?_
          | refine aw_cond_t rfl ?_
          | refine aw_cond_f rfl ?_
          | refine awl_skip rfl rfl ?_
          | refine awd_skip rfl rfl ?_
          | refine bodyQ_ret [] true rfl rfl rfl ?_)
        refine ⟨k + 1, ⟨.inr ⟨by omega, by rw [h3, hr2, if_neg h]⟩, by omega⟩, by dsimp only; omega, true, _, _, _, rfl, rfl, rfl, ?_, rfl⟩
        exact congrArg (fun z => [AVal.sl (m.map encP), .sl (m.map encP), .v (.int .i64 m.length), .v (.int .i64 z)]) w1
  · have h := of_decide_eq_false h
    repeat (first
      | refine awl_p rfl rfl rfl ?_
      | refine awd_p rfl rfl rfl ?_
      | refine awl_nil ?_
      | refine awd_nil ?_
      | refine aw_seq ?_
      | refine aw_reg ?_
      | (refine aw_draw ?_ ?_; · kernel_rfl)
      | refine awl_load rfl rfl rfl ?_
      | refine awd_load rfl rfl rfl ?_
      | refine awd_loadp rfl rfl rfl ?_
      | refine awl_alloc rfl rfl rfl rfl ?_
      | refine awd_alloc rfl rfl rfl rfl ?_
      | refine awl_store rfl rfl ?_
      | refine awd_store rfl rfl ?_
      | refine awl_build rfl rfl rfl ?_
      | refine awd_build rfl rfl rfl ?_
      | refine aw_block ?_
      | refine aw_skip ?_
      | refine aw_exit ?_
      | refine aw_ret ?_
      | refine aw_cond_t rfl ?_
      | refine aw_cond_f rfl ?_
      | refine awl_skip rfl rfl ?_
      | refine awd_skip rfl rfl ?_
      | refine bodyQ_ret [] true rfl rfl rfl ?_)
    refine one_ok ?_ rfl
    refine congrArg (fun b => AVal.v (.bool b)) ?_
    have hk2 : k = m.length := by omega
    subst hk2
    rcases hk with h2 | ⟨h2, h3⟩
    · omega
    · unfold right
      rw [h3, Nat.sub_self]
      simp [risesFrom]
      omega

end Go.AL
