/-
  The search for a key's place. No conditions.
-/
import Derived.Test.YthogeodbnnfamaaS1
import Derived.Test.YthogeodbnnfamaaL3
set_option linter.unusedVariables false
set_option linter.unusedSimpArgs false
namespace Go.AL
open Go Go.Proofs
attribute [local irreducible] AWL AWD AW

def cmpI (x y : Int) : Int := if x < y then -1 else if x > y then 1 else 0

theorem isNaN_ok (x : Int) : ACalls Try.prog 67 [.v (.int .i64 x)] [] (one (.v (.bool false)) []) := by
  refine acalls_intro Try.func67 rfl (by kernel_rfl) Try.ntmps67 rfl rfl (fun w0 β0 ext hβ => ?_)
  repeat (first
    | refine awl_p rfl rfl rfl ?_
    | refine awd_p rfl rfl rfl ?_
    | refine awl_nil ?_
    | refine awd_nil ?_
    | refine aw_seq ?_
    | refine aw_reg ?_
    | (refine aw_draw ?_ ?_; · kernel_rfl)
    | refine awl_load rfl rfl rfl ?_
    | refine awd_load rfl rfl rfl ?_
    | refine awd_loadp rfl rfl rfl ?_
    | refine awl_alloc rfl rfl rfl rfl ?_
    | refine awd_alloc rfl rfl rfl rfl ?_
    | refine awl_store rfl rfl ?_
    | refine awd_store rfl rfl ?_
    | refine awl_build rfl rfl rfl ?_
    | refine awd_build rfl rfl rfl ?_
    | refine aw_block ?_
    | refine aw_skip ?_
    | refine aw_exit ?_
    | refine aw_ret ?_
    | refine aw_cond_t rfl ?_
    | refine aw_cond_f rfl ?_
    | refine awl_skip rfl rfl ?_
    | refine awd_skip rfl rfl ?_
    | refine bodyQ_ret [] true rfl rfl rfl ?_)
  refine one_ok ?_ rfl
  simp

theorem compare_ok (x y : Int) : ACalls Try.prog 53 [.v (.int .i64 x), .v (.int .i64 y)] [] (one (.v (.int .i64 (cmpI x y))) []) := by
  refine acalls_intro Try.func53 rfl (by kernel_rfl) Try.ntmps53 rfl rfl (fun w0 β0 ext hβ => ?_)
  repeat' (first
    | refine one_ok ?_ rfl
    | refine awl_p rfl rfl rfl ?_
    | refine awd_p rfl rfl rfl ?_
    | refine awl_nil ?_
    | refine awd_nil ?_
    | refine aw_seq ?_
    | refine aw_reg ?_
    | (refine aw_draw ?_ ?_; · kernel_rfl)
    | refine awl_load rfl rfl rfl ?_
    | refine awd_load rfl rfl rfl ?_
    | refine awd_loadp rfl rfl rfl ?_
    | refine awl_alloc rfl rfl rfl rfl ?_
    | refine awd_alloc rfl rfl rfl rfl ?_
    | refine awl_store rfl rfl ?_
    | refine awd_store rfl rfl ?_
    | refine awl_build rfl rfl rfl ?_
    | refine awd_build rfl rfl rfl ?_
    | refine aw_block ?_
    | refine aw_skip ?_
    | refine aw_exit ?_
    | refine aw_ret ?_
    | refine aw_cond_t rfl ?_
    | refine aw_cond_f rfl ?_
    | refine awl_skip rfl rfl ?_
    | refine awd_skip rfl rfl ?_
    | refine awl_d rfl rfl (call_val rfl rfl (isNaN_ok ..) rfl (fun _ => rfl) (fun _ => rfl)) ?_
    | refine awd_d rfl rfl (call_val rfl rfl (isNaN_ok ..) rfl (fun _ => rfl) (fun _ => rfl)) ?_
    | (refine awl_g rfl rfl (fun h => ?_) (fun h => ?_) <;> (try simp only [decide_eq_true_eq, decide_eq_false_iff_not, beq_iff_eq, beq_eq_false_iff_ne, bne_iff_ne, bne_eq_false_iff_eq, ne_eq] at h) <;> (try (exfalso; omega)))
    | (refine awd_g rfl rfl (fun h => ?_) (fun h => ?_) <;> (try simp only [decide_eq_true_eq, decide_eq_false_iff_not, beq_iff_eq, beq_eq_false_iff_ne, bne_iff_ne, bne_eq_false_iff_eq, ne_eq] at h) <;> (try (exfalso; omega)))
    | (refine aw_condS rfl (fun h => ?_) (fun h => ?_) <;> (try simp only [decide_eq_true_eq, decide_eq_false_iff_not, beq_iff_eq, beq_eq_false_iff_ne, bne_iff_ne, bne_eq_false_iff_eq, ne_eq] at h) <;> (try (exfalso; omega)))
    | refine awl_d rfl rfl (index_at rfl rfl rfl rfl rfl rfl rfl rfl (by omega) (by omega)) ?_
    | refine awd_d rfl rfl (index_at rfl rfl rfl rfl rfl rfl rfl rfl (by omega) (by omega)) ?_
    | refine bodyQ_ret [] true rfl rfl rfl ?_)
  all_goals refine congrArg (fun b => AVal.v (.int .i64 b)) ?_
  all_goals simp_all [cmpI]
  all_goals omega

theorem key_ok (p : Pair) (key : Int) : ACalls Try.prog 52 [encP p, .v (.int .i64 key)] [] (one (.v (.int .i64 (cmpI p.key key))) []) := by
  refine acalls_intro Try.func52 rfl (by kernel_rfl) Try.ntmps52 rfl rfl (fun w0 β0 ext hβ => ?_)
  repeat' (first
    | refine one_ok ?_ rfl
    | refine awl_p rfl rfl rfl ?_
    | refine awd_p rfl rfl rfl ?_
    | refine awl_nil ?_
    | refine awd_nil ?_
    | refine aw_seq ?_
    | refine aw_reg ?_
    | (refine aw_draw ?_ ?_; · kernel_rfl)
    | refine awl_load rfl rfl rfl ?_
    | refine awd_load rfl rfl rfl ?_
    | refine awd_loadp rfl rfl rfl ?_
    | refine awl_alloc rfl rfl rfl rfl ?_
    | refine awd_alloc rfl rfl rfl rfl ?_
    | refine awl_store rfl rfl ?_
    | refine awd_store rfl rfl ?_
    | refine awl_build rfl rfl rfl ?_
    | refine awd_build rfl rfl rfl ?_
    | refine aw_block ?_
    | refine aw_skip ?_
    | refine aw_exit ?_
    | refine aw_ret ?_
    | refine aw_cond_t rfl ?_
    | refine aw_cond_f rfl ?_
    | refine awl_skip rfl rfl ?_
    | refine awd_skip rfl rfl ?_
    | refine awl_d rfl rfl (call_val rfl rfl (compare_ok ..) rfl (fun _ => rfl) (fun _ => rfl)) ?_
    | refine awd_d rfl rfl (call_val rfl rfl (compare_ok ..) rfl (fun _ => rfl) (fun _ => rfl)) ?_
    | (refine awl_g rfl rfl (fun h => ?_) (fun h => ?_) <;> (try simp only [decide_eq_true_eq, decide_eq_false_iff_not, beq_iff_eq, beq_eq_false_iff_ne, bne_iff_ne, bne_eq_false_iff_eq, ne_eq] at h) <;> (try (exfalso; omega)))
    | (refine awd_g rfl rfl (fun h => ?_) (fun h => ?_) <;> (try simp only [decide_eq_true_eq, decide_eq_false_iff_not, beq_iff_eq, beq_eq_false_iff_ne, bne_iff_ne, bne_eq_false_iff_eq, ne_eq] at h) <;> (try (exfalso; omega)))
    | (refine aw_condS rfl (fun h => ?_) (fun h => ?_) <;> (try simp only [decide_eq_true_eq, decide_eq_false_iff_not, beq_iff_eq, beq_eq_false_iff_ne, bne_iff_ne, bne_eq_false_iff_eq, ne_eq] at h) <;> (try (exfalso; omega)))
    | refine awl_d rfl rfl (index_at rfl rfl rfl rfl rfl rfl rfl rfl (by omega) (by omega)) ?_
    | refine awd_d rfl rfl (index_at rfl rfl rfl rfl rfl rfl rfl rfl (by omega) (by omega)) ?_
    | refine bodyQ_ret [] true rfl rfl rfl ?_)
  all_goals rfl

instance : Inhabited Pair := ⟨⟨0, 0⟩⟩
def Sorted (m : List Pair) : Prop := ∀ i j : Nat, i < j → j < m.length → (at' m (i : Int)).key < (at' m (j : Int)).key
/-- the place of a key, or where it would be -/
def place : List Pair → Int → Nat
  | [], _ => 0
  | p :: m, k => if p.key < k then place m k + 1 else 0
def has (m : List Pair) (k : Int) : Bool := decide (place m k < m.length) && decide ((at' m (place m k : Int)).key = k)

theorem place_le : ∀ (m : List Pair) (k : Int), place m k ≤ m.length
  | [], _ => Nat.le_refl _
  | p :: m, k => by
    unfold place
    have := place_le m k
    split
    · simpa using this
    · simp
theorem at_cons {p : Pair} {m : List Pair} (i : Nat) : at' (p :: m) ((i + 1 : Nat) : Int) = at' m (i : Int) := by simp [at']
theorem place_lt : ∀ {m : List Pair} {k : Int} {i : Nat}, i < place m k → (at' m (i : Int)).key < k
  | [], _, _, h => by simp [place] at h
  | p :: m, k, i, h => by
    unfold place at h
    split at h
    · rename_i hp
      cases i with
      | zero => simpa [at'] using hp
      | succ i => rw [at_cons]; exact place_lt (by omega)
    · omega
theorem place_ge : ∀ {m : List Pair} {k : Int}, place m k < m.length → ¬ (at' m (place m k : Int)).key < k
  | [], _, h => by simp [place] at h
  | p :: m, k, h => by
    unfold place at h ⊢
    split
    · rename_i hp
      rw [if_pos hp] at h
      rw [at_cons]; exact place_ge (by simpa using h)
    · rename_i hp
      simpa [at'] using hp
/-- what the search finds is the place -/
theorem place_eq {m : List Pair} {k : Int} {i : Nat} (hi : i ≤ m.length) (h1 : ∀ a : Nat, a < i → (at' m (a : Int)).key < k) (h2 : ∀ a : Nat, i ≤ a → a < m.length → ¬ (at' m (a : Int)).key < k) : place m k = i := by
  have h3 := place_le m k
  rcases Nat.lt_trichotomy (place m k) i with h | h | h
  · exact absurd (h1 _ h) (place_ge (by omega))
  · exact h
  · exact absurd (place_lt h) (h2 i (Nat.le_refl _) (by omega))

theorem search_ok (m : List Pair) (k : Int) (hm : m.length ≤ 1000000) (hs : Sorted m) :
    ACalls Try.prog 51 [.sl (m.map encP), .v (.int .i64 k), .fn (.func 52) [] []] [] (one (.tup [.v (.int .i64 (place m k)), .v (.bool (has m k))]) []) := by
  refine acalls_intro Try.func51 rfl (by kernel_rfl) Try.ntmps51 rfl rfl (fun w0 β0 ext hβ => ?_)
  repeat (first
    | refine awl_p rfl rfl rfl ?_
    | refine awd_p rfl rfl rfl ?_
    | refine awl_nil ?_
    | refine awd_nil ?_
    | refine aw_seq ?_
    | refine aw_reg ?_
    | (refine aw_draw ?_ ?_; · kernel_rfl)
    | refine awl_load rfl rfl rfl ?_
    | refine awd_load rfl rfl rfl ?_
    | refine awd_loadp rfl rfl rfl ?_
    | refine awl_alloc rfl rfl rfl rfl ?_
    | refine awd_alloc rfl rfl rfl rfl ?_
    | refine awl_store rfl rfl ?_
    | refine awd_store rfl rfl ?_
    | refine awl_build rfl rfl rfl ?_
    | refine awd_build rfl rfl rfl ?_
    | refine aw_block ?_
    | refine aw_skip ?_
    | refine aw_exit ?_
    | refine aw_ret ?_
    | refine aw_cond_t rfl ?_
    | refine aw_cond_f rfl ?_
    | refine awl_skip rfl rfl ?_
    | refine awd_skip rfl rfl ?_
    | refine bodyQ_ret [] true rfl rfl rfl ?_)
  refine aw_loop (ι := { x : Nat × Nat // x.1 ≤ x.2 ∧ x.2 ≤ m.length ∧ (∀ a : Nat, a < x.1 → (at' m (a : Int)).key < k) ∧ ∀ a : Nat, x.2 ≤ a → a < m.length → ¬ (at' m (a : Int)).key < k }) [0, 1, 2, 8, 9, 10]
    (fun x => [.sl (m.map encP), .v (.int .i64 k), .fn (.func 52) [] [], .v (.int .i64 m.length), .v (.int .i64 x.1.1), .v (.int .i64 x.1.2)]) (fun _ => []) (fun x => x.1.2 - x.1.1)
    ⟨(0, m.length), by simp, by simp, by simp, by simp; omega⟩ (by simp; rfl) rfl ?_
  rintro ⟨⟨i, j⟩, hij, hj, hlo, hhi⟩
  repeat (first
    | refine awl_p rfl rfl rfl ?_
    | refine awd_p rfl rfl rfl ?_
    | refine awl_nil ?_
    | refine awd_nil ?_
    | refine aw_seq ?_
    | refine aw_reg ?_
    | (refine aw_draw ?_ ?_; · kernel_rfl)
    | refine awl_load rfl rfl rfl ?_
    | refine awd_load rfl rfl rfl ?_
    | refine awd_loadp rfl rfl rfl ?_
    | refine awl_alloc rfl rfl rfl rfl ?_
    | refine awd_alloc rfl rfl rfl rfl ?_
    | refine awl_store rfl rfl ?_
    | refine awd_store rfl rfl ?_
    | refine awl_build rfl rfl rfl ?_
    | refine awd_build rfl rfl rfl ?_
    | refine aw_block ?_
    | refine aw_skip ?_
    | refine aw_exit ?_
    | refine aw_ret ?_
    | refine aw_cond_t rfl ?_
    | refine aw_cond_f rfl ?_
    | refine awl_skip rfl rfl ?_
    | refine awd_skip rfl rfl ?_
    | refine bodyQ_ret [] true rfl rfl rfl ?_)
  refine aw_cond rfl (fun h => ?_) (fun h => ?_)
  · have h := of_decide_eq_true h
    simp only at h hij hj hlo hhi
    have hmid : IntKind.i64.wrap ((IntKind.u64.wrap (IntKind.i64.wrap ((i : Int) + (j : Int)))).fdiv (2 ^ min (Int.toNat 1) IntKind.u64.bits)) = (((i + j) / 2 : Nat) : Int) := by
      rw [half_id (by omega) (by omega)]; omega
    repeat (first
      | refine awl_p rfl rfl rfl ?_
      | refine awd_p rfl rfl rfl ?_
      | refine awl_nil ?_
      | refine awd_nil ?_
      | refine aw_seq ?_
      | refine aw_reg ?_
      | (refine aw_draw ?_ ?_; · kernel_rfl)
      | refine awl_load rfl rfl rfl ?_
      | refine awd_load rfl rfl rfl ?_
      | refine awd_loadp rfl rfl rfl ?_
      | refine awl_alloc rfl rfl rfl rfl ?_
      | refine awd_alloc rfl rfl rfl rfl ?_
      | refine awl_store rfl rfl ?_
      | refine awd_store rfl rfl ?_
      | refine awl_build rfl rfl rfl ?_
      | refine awd_build rfl rfl rfl ?_
      | refine aw_block ?_
      | refine aw_skip ?_
      | refine aw_exit ?_
      | refine aw_ret ?_
      | refine aw_cond_t rfl ?_
      | refine aw_cond_f rfl ?_
      | refine awl_skip rfl rfl ?_
      | refine awd_skip rfl rfl ?_
      | refine bodyQ_ret [] true rfl rfl rfl ?_)
    refine awl_re 26 rfl (int_re hmid) ?_
    refine awl_re 11 rfl (int_re hmid) ?_
    have hq : (i + j) / 2 < m.length := by omega
    have hmul : i ≤ (i + j) / 2 ∧ (i + j) / 2 < j := by omega
    generalize (i + j) / 2 = q at hq hmul
    repeat (first
      | refine awl_p rfl rfl rfl ?_
      | refine awd_p rfl rfl rfl ?_
      | refine awl_nil ?_
      | refine awd_nil ?_
      | refine aw_seq ?_
      | refine aw_reg ?_
      | (refine aw_draw ?_ ?_; · kernel_rfl)
      | refine awl_load rfl rfl rfl ?_
      | refine awd_load rfl rfl rfl ?_
      | refine awd_loadp rfl rfl rfl ?_
      | refine awl_alloc rfl rfl rfl rfl ?_
      | refine awd_alloc rfl rfl rfl rfl ?_
      | refine awl_store rfl rfl ?_
      | refine awd_store rfl rfl ?_
      | refine awl_build rfl rfl rfl ?_
      | refine awd_build rfl rfl rfl ?_
      | refine aw_block ?_
      | refine aw_skip ?_
      | refine aw_exit ?_
      | refine aw_ret ?_
      | refine aw_cond_t rfl ?_
      | refine aw_cond_f rfl ?_
      | refine awl_skip rfl rfl ?_
      | refine awd_skip rfl rfl ?_
      | refine bodyQ_ret [] true rfl rfl rfl ?_)
    refine awl_d rfl rfl (index_at rfl rfl rfl rfl rfl rfl rfl rfl (by omega) (by omega)) ?_
    repeat (first
      | refine awl_p rfl rfl rfl ?_
      | refine awd_p rfl rfl rfl ?_
      | refine awl_nil ?_
      | refine awd_nil ?_
      | refine aw_seq ?_
      | refine aw_reg ?_
      | (refine aw_draw ?_ ?_; · kernel_rfl)
      | refine awl_load rfl rfl rfl ?_
      | refine awd_load rfl rfl rfl ?_
      | refine awd_loadp rfl rfl rfl ?_
      | refine awl_alloc rfl rfl rfl rfl ?_
      | refine awd_alloc rfl rfl rfl rfl ?_
      | refine awl_store rfl rfl ?_
      | refine awd_store rfl rfl ?_
      | refine awl_build rfl rfl rfl ?_
      | refine awd_build rfl rfl rfl ?_
      | refine aw_block ?_
      | refine aw_skip ?_
      | refine aw_exit ?_
      | refine aw_ret ?_
      | refine aw_cond_t rfl ?_
      | refine aw_cond_f rfl ?_
      | refine awl_skip rfl rfl ?_
      | refine awd_skip rfl rfl ?_
      | refine bodyQ_ret [] true rfl rfl rfl ?_)
    refine awl_d rfl rfl (call_val rfl rfl (key_ok (at' m (q : Int)) k) rfl (fun _ => rfl) (fun _ => rfl)) ?_
    repeat (first
      | refine awl_p rfl rfl rfl ?_
      | refine awd_p rfl rfl rfl ?_
      | refine awl_nil ?_
      | refine awd_nil ?_
      | refine aw_seq ?_
      | refine aw_reg ?_
      | (refine aw_draw ?_ ?_; · kernel_rfl)
      | refine awl_load rfl rfl rfl ?_
      | refine awd_load rfl rfl rfl ?_
      | refine awd_loadp rfl rfl rfl ?_
      | refine awl_alloc rfl rfl rfl rfl ?_
      | refine awd_alloc rfl rfl rfl rfl ?_
      | refine awl_store rfl rfl ?_
      | refine awd_store rfl rfl ?_
      | refine awl_build rfl rfl rfl ?_
      | refine awd_build rfl rfl rfl ?_
      | refine aw_block ?_
      | refine aw_skip ?_
      | refine aw_exit ?_
      | refine aw_ret ?_
      | refine aw_cond_t rfl ?_
      | refine aw_cond_f rfl ?_
      | refine awl_skip rfl rfl ?_
      | refine awd_skip rfl rfl ?_
      | refine bodyQ_ret [] true rfl rfl rfl ?_)
    refine aw_cond rfl (fun h2 => ?_) (fun h2 => ?_)
    · have h2 := of_decide_eq_true h2
      have h3 : (at' m (q : Int)).key < k := by
        unfold cmpI at h2
        split at h2
        · assumption
        · split at h2 <;> omega
      repeat (first
        | refine awl_p rfl rfl rfl ?_
        | refine awd_p rfl rfl rfl ?_
        | refine awl_nil ?_
        | refine awd_nil ?_
        | refine aw_seq ?_
        | refine aw_reg ?_
        | (refine aw_draw ?_ ?_; · kernel_rfl)
        | refine awl_load rfl rfl rfl ?_
        | refine awd_load rfl rfl rfl ?_
        | refine awd_loadp rfl rfl rfl ?_
        | refine awl_alloc rfl rfl rfl rfl ?_
        | refine awd_alloc rfl rfl rfl rfl ?_
        | refine awl_store rfl rfl ?_
        | refine awd_store rfl rfl ?_
        | refine awl_build rfl rfl rfl ?_
        | refine awd_build rfl rfl rfl ?_
        | refine aw_block ?_
        | refine aw_skip ?_
        | refine aw_exit ?_
        | refine aw_ret ?_
        | refine aw_cond_t rfl ?_
        | refine aw_cond_f rfl ?_
        | refine awl_skip rfl rfl ?_
        | refine awd_skip rfl rfl ?_
        | refine bodyQ_ret [] true rfl rfl rfl ?_)
      refine ⟨⟨(q + 1, j), by show q + 1 ≤ j; omega, hj, fun a ha => ?_, hhi⟩, ?_, rfl, by show j - (q + 1) < j - i; omega⟩
      · rcases Nat.lt_or_ge a q with h4 | h4
        · exact Int.lt_trans (hs a q h4 hq) h3
        · have : a = q := by have : a < q + 1 := ha; omega
          subst this; exact h3
      · have : IntKind.i64.wrap ((q : Int) + 1) = ((q + 1 : Nat) : Int) := by rw [wrap_id (by omega) (by omega)]; omega
        exact congrArg (fun z => some [AVal.sl (m.map encP), .v (.int .i64 k), .fn (.func 52) [] [], .v (.int .i64 (m.length : Nat)), .v (.int .i64 z), .v (.int .i64 j)]) this
    · have h2 := of_decide_eq_false h2
      have h3 : ¬ (at' m (q : Int)).key < k := by
        intro h4
        unfold cmpI at h2
        rw [if_pos h4] at h2; omega
      repeat (first
        | refine awl_p rfl rfl rfl ?_
        | refine awd_p rfl rfl rfl ?_
        | refine awl_nil ?_
        | refine awd_nil ?_
        | refine aw_seq ?_
        | refine aw_reg ?_
        | (refine aw_draw ?_ ?_; · kernel_rfl)
        | refine awl_load rfl rfl rfl ?_
        | refine awd_load rfl rfl rfl ?_
        | refine awd_loadp rfl rfl rfl ?_
        | refine awl_alloc rfl rfl rfl rfl ?_
        | refine awd_alloc rfl rfl rfl rfl ?_
        | refine awl_store rfl rfl ?_
        | refine awd_store rfl rfl ?_
        | refine awl_build rfl rfl rfl ?_
        | refine awd_build rfl rfl rfl ?_
        | refine aw_block ?_
        | refine aw_skip ?_
        | refine aw_exit ?_
        | refine aw_ret ?_
        | refine aw_cond_t rfl ?_
        | refine aw_cond_f rfl ?_
        | refine awl_skip rfl rfl ?_
        | refine awd_skip rfl rfl ?_
        | refine bodyQ_ret [] true rfl rfl rfl ?_)
      refine ⟨⟨(i, q), by show i ≤ q; omega, by show q ≤ _; omega, hlo, fun a ha hb => ?_⟩, ?_, rfl, by show q - i < j - i; omega⟩
      · have ha : q ≤ a := ha
        rcases Nat.lt_or_ge q a with h4 | h4
        · have := hs q a h4 hb; omega
        · have : a = q := by omega
          subst this; exact h3
      · rfl
  · have h := of_decide_eq_false h
    simp only at h hij hj hlo hhi
    have hji : i = j := by omega
    subst hji
    have hp : place m k = i := place_eq hj hlo hhi
    repeat (first
      | refine awl_p rfl rfl rfl ?_
      | refine awd_p rfl rfl rfl ?_
      | refine awl_nil ?_
      | refine awd_nil ?_
      | refine aw_seq ?_
      | refine aw_reg ?_
      | (refine aw_draw ?_ ?_; · kernel_rfl)
      | refine awl_load rfl rfl rfl ?_
      | refine awd_load rfl rfl rfl ?_
      | refine awd_loadp rfl rfl rfl ?_
      | refine awl_alloc rfl rfl rfl rfl ?_
      | refine awd_alloc rfl rfl rfl rfl ?_
      | refine awl_store rfl rfl ?_
      | refine awd_store rfl rfl ?_
      | refine awl_build rfl rfl rfl ?_
      | refine awd_build rfl rfl rfl ?_
      | refine aw_block ?_
      | refine aw_skip ?_
      | refine aw_exit ?_
      | refine aw_ret ?_
      | refine aw_cond_t rfl ?_
      | refine aw_cond_f rfl ?_
      | refine awl_skip rfl rfl ?_
      | refine awd_skip rfl rfl ?_
      | refine bodyQ_ret [] true rfl rfl rfl ?_)
    refine awl_g rfl rfl (fun h => ?_) (fun h => ?_)
    · have h := of_decide_eq_true h
      simp only at h
      repeat (first
        | refine awl_p rfl rfl rfl ?_
        | refine awd_p rfl rfl rfl ?_
        | refine awl_nil ?_
        | refine awd_nil ?_
        | refine aw_seq ?_
        | refine aw_reg ?_
        | (refine aw_draw ?_ ?_; · kernel_rfl)
        | refine awl_load rfl rfl rfl ?_
        | refine awd_load rfl rfl rfl ?_
        | refine awd_loadp rfl rfl rfl ?_
        | refine awl_alloc rfl rfl rfl rfl ?_
        | refine awd_alloc rfl rfl rfl rfl ?_
        | refine awl_store rfl rfl ?_
        | refine awd_store rfl rfl ?_
        | refine awl_build rfl rfl rfl ?_
        | refine awd_build rfl rfl rfl ?_
        | refine aw_block ?_
        | refine aw_skip ?_
        | refine aw_exit ?_
        | refine aw_ret ?_
        | refine aw_cond_t rfl ?_
        | refine aw_cond_f rfl ?_
        | refine awl_skip rfl rfl ?_
        | refine awd_skip rfl rfl ?_
        | refine bodyQ_ret [] true rfl rfl rfl ?_)
      refine awl_d rfl rfl (index_at rfl rfl rfl rfl rfl rfl rfl rfl (by omega) (by omega)) ?_
      repeat (first
        | refine awl_p rfl rfl rfl ?_
        | refine awd_p rfl rfl rfl ?_
        | refine awl_nil ?_
        | refine awd_nil ?_
        | refine aw_seq ?_
        | refine aw_reg ?_
        | (refine aw_draw ?_ ?_; · kernel_rfl)
        | refine awl_load rfl rfl rfl ?_
        | refine awd_load rfl rfl rfl ?_
        | refine awd_loadp rfl rfl rfl ?_
        | refine awl_alloc rfl rfl rfl rfl ?_
        | refine awd_alloc rfl rfl rfl rfl ?_
        | refine awl_store rfl rfl ?_
        | refine awd_store rfl rfl ?_
        | refine awl_build rfl rfl rfl ?_
        | refine awd_build rfl rfl rfl ?_
        | refine aw_block ?_
        | refine aw_skip ?_
        | refine aw_exit ?_
        | refine aw_ret ?_
        | refine aw_cond_t rfl ?_
        | refine aw_cond_f rfl ?_
        | refine awl_skip rfl rfl ?_
        | refine awd_skip rfl rfl ?_
        | refine bodyQ_ret [] true rfl rfl rfl ?_)
      refine awl_d rfl rfl (call_val rfl rfl (key_ok (at' m (i : Int)) k) rfl (fun _ => rfl) (fun _ => rfl)) ?_
      repeat (first
        | refine awl_p rfl rfl rfl ?_
        | refine awd_p rfl rfl rfl ?_
        | refine awl_nil ?_
        | refine awd_nil ?_
        | refine aw_seq ?_
        | refine aw_reg ?_
        | (refine aw_draw ?_ ?_; · kernel_rfl)
        | refine awl_load rfl rfl rfl ?_
        | refine awd_load rfl rfl rfl ?_
        | refine awd_loadp rfl rfl rfl ?_
        | refine awl_alloc rfl rfl rfl rfl ?_
        | refine awd_alloc rfl rfl rfl rfl ?_
        | refine awl_store rfl rfl ?_
        | refine awd_store rfl rfl ?_
        | refine awl_build rfl rfl rfl ?_
        | refine awd_build rfl rfl rfl ?_
        | refine aw_block ?_
        | refine aw_skip ?_
        | refine aw_exit ?_
        | refine aw_ret ?_
        | refine aw_cond_t rfl ?_
        | refine aw_cond_f rfl ?_
        | refine awl_skip rfl rfl ?_
        | refine awd_skip rfl rfl ?_
        | refine bodyQ_ret [] true rfl rfl rfl ?_)
      refine one_ok ?_ rfl
      have e1 : has m k = (cmpI (at' m (i : Int)).key k == 0) := by
        unfold has cmpI
        rw [hp]
        have : decide (i < m.length) = true := by simp; omega
        rw [this, Bool.true_and]
        split
        · rename_i h5
          have : ¬ (at' m (i : Int)).key = k := by omega
          simp [this]
        · split
          · rename_i h5
            have : ¬ (at' m (i : Int)).key = k := by omega
            simp [this]
          · have : (at' m (i : Int)).key = k := by omega
            simp [this]
      rw [e1, hp]
    · have h := of_decide_eq_false h
      simp only at h
      repeat (first
        | refine awl_p rfl rfl rfl ?_
        | refine awd_p rfl rfl rfl ?_
        | refine awl_nil ?_
        | refine awd_nil ?_
        | refine aw_seq ?_
        | refine aw_reg ?_
        | (refine aw_draw ?_ ?_; · kernel_rfl)
        | refine awl_load rfl rfl rfl ?_
        | refine awd_load rfl rfl rfl ?_
        | refine awd_loadp rfl rfl rfl ?_
        | refine awl_alloc rfl rfl rfl rfl ?_
        | refine awd_alloc rfl rfl rfl rfl ?_
        | refine awl_store rfl rfl ?_
        | refine awd_store rfl rfl ?_
        | refine awl_build rfl rfl rfl ?_
        | refine awd_build rfl rfl rfl ?_
        | refine aw_block ?_
        | refine aw_skip ?_
        | refine aw_exit ?_
        | refine aw_ret ?_
        | refine aw_cond_t rfl ?_
        | refine aw_cond_f rfl ?_
        | refine awl_skip rfl rfl ?_
        | refine awd_skip rfl rfl ?_
        | refine bodyQ_ret [] true rfl rfl rfl ?_)
      refine one_ok ?_ rfl
      have e1 : has m k = false := by
        unfold has
        rw [hp]
        have : decide (i < m.length) = false := by simp; omega
        rw [this, Bool.false_and]
      rw [e1, hp]

/-- the state of a call on a map -/
def encS (m : List Pair) (c : Call) : List AVal := [.sl (m.map encP), .v (.int .i64 c.kind), .v (.int .i64 c.key), .v (.int .i64 c.value), .v (.int .i64 c.old), .v (.int .i64 (place m c.key)), .v (.bool (has m c.key))]

theorem newState_ok (m : List Pair) (c : Call) (hm : m.length ≤ 1000000) (hs : Sorted m) :
    ACalls Try.prog 35 [.sl (m.map encP), encC c] [] (one (.ptr 0 0) [.box 75 (encS m c)]) := by
  refine acalls_intro Try.func35 rfl (by kernel_rfl) Try.ntmps35 rfl rfl (fun w0 β0 ext hβ => ?_)
  repeat (first
    | refine awl_p rfl rfl rfl ?_
    | refine awd_p rfl rfl rfl ?_
    | refine awl_nil ?_
    | refine awd_nil ?_
    | refine aw_seq ?_
    | refine aw_reg ?_
    | (refine aw_draw ?_ ?_; · kernel_rfl)
    | refine awl_load rfl rfl rfl ?_
    | refine awd_load rfl rfl rfl ?_
    | refine awd_loadp rfl rfl rfl ?_
    | refine awl_alloc rfl rfl rfl rfl ?_
    | refine awd_alloc rfl rfl rfl rfl ?_
    | refine awl_store rfl rfl ?_
    | refine awd_store rfl rfl ?_
    | refine awl_build rfl rfl rfl ?_
    | refine awd_build rfl rfl rfl ?_
    | refine aw_block ?_
    | refine aw_skip ?_
    | refine aw_exit ?_
    | refine aw_ret ?_
    | refine aw_cond_t rfl ?_
    | refine aw_cond_f rfl ?_
    | refine awl_skip rfl rfl ?_
    | refine awd_skip rfl rfl ?_
    | refine bodyQ_ret [] true rfl rfl rfl ?_)
  refine awl_d rfl rfl (call_val rfl rfl (search_ok m c.key hm hs) rfl (fun _ => rfl) (fun _ => rfl)) ?_
  repeat (first
    | refine awl_p rfl rfl rfl ?_
    | refine awd_p rfl rfl rfl ?_
    | refine awl_nil ?_
    | refine awd_nil ?_
    | refine aw_seq ?_
    | refine aw_reg ?_
    | (refine aw_draw ?_ ?_; · kernel_rfl)
    | refine awl_load rfl rfl rfl ?_
    | refine awd_load rfl rfl rfl ?_
    | refine awd_loadp rfl rfl rfl ?_
    | refine awl_alloc rfl rfl rfl rfl ?_
    | refine awd_alloc rfl rfl rfl rfl ?_
    | refine awl_store rfl rfl ?_
    | refine awd_store rfl rfl ?_
    | refine awl_build rfl rfl rfl ?_
    | refine awd_build rfl rfl rfl ?_
    | refine aw_block ?_
    | refine aw_skip ?_
    | refine aw_exit ?_
    | refine aw_ret ?_
    | refine aw_cond_t rfl ?_
    | refine aw_cond_f rfl ?_
    | refine awl_skip rfl rfl ?_
    | refine awd_skip rfl rfl ?_
    | refine bodyQ_ret [] true rfl rfl rfl ?_)
  refine bodyQ_ret [1] true rfl rfl rfl ?_
  exact ⟨rfl, rfl⟩
end Go.AL
