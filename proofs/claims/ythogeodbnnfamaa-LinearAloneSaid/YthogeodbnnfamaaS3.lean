/-
  Clone, Insert and Delete at pairs. No conditions.
-/
import Derived.Test.YthogeodbnnfamaaS2
import Derived.Test.YthogeodbnnfamaaL3
set_option linter.unusedVariables false
set_option linter.unusedSimpArgs false
namespace Go.AL
open Go Go.Proofs
attribute [local irreducible] AWL AWD AW

theorem clone_nil : ACalls Try.prog 68 [.sl []] [] (one (.slf []) []) := by
  refine acalls_intro Try.func68 rfl (by kernel_rfl) Try.ntmps68 rfl rfl (fun w0 β0 ext hβ => ?_)
  repeat (first
    | refine awl_p rfl rfl rfl ?_
    | refine awd_p rfl rfl rfl ?_
    | refine awl_nil ?_
    | refine awd_nil ?_
    | refine aw_seq ?_
    | refine aw_reg ?_
    | (refine aw_draw ?_ ?_; · kernel_rfl)
    | refine awl_load rfl rfl rfl ?_
    | refine awd_load rfl rfl rfl ?_
    | refine awd_loadp rfl rfl rfl ?_
    | refine awl_alloc rfl rfl rfl rfl ?_
    | refine awd_alloc rfl rfl rfl rfl ?_
    | refine awl_store rfl rfl ?_
    | refine awd_store rfl rfl ?_
    | refine awl_build rfl rfl rfl ?_
    | refine awd_build rfl rfl rfl ?_
    | refine aw_block ?_
    | refine aw_skip ?_
    | refine aw_exit ?_
    | refine aw_ret ?_
    | refine aw_cond_t rfl ?_
    | refine aw_cond_f rfl ?_
    | refine awl_skip rfl rfl ?_
    | refine awd_skip rfl rfl ?_)
  refine awl_q rfl rfl (eq_nil rfl rfl rfl rfl) ?_
  rintro r H' ⟨⟨b, rfl, hb⟩, rfl⟩
  refine ⟨_, rfl, ?_⟩
  repeat (first
    | refine awl_p rfl rfl rfl ?_
    | refine awd_p rfl rfl rfl ?_
    | refine awl_nil ?_
    | refine awd_nil ?_
    | refine aw_seq ?_
    | refine aw_reg ?_
    | (refine aw_draw ?_ ?_; · kernel_rfl)
    | refine awl_load rfl rfl rfl ?_
    | refine awd_load rfl rfl rfl ?_
    | refine awd_loadp rfl rfl rfl ?_
    | refine awl_alloc rfl rfl rfl rfl ?_
    | refine awd_alloc rfl rfl rfl rfl ?_
    | refine awl_store rfl rfl ?_
    | refine awd_store rfl rfl ?_
    | refine awl_build rfl rfl rfl ?_
    | refine awd_build rfl rfl rfl ?_
    | refine aw_block ?_
    | refine aw_skip ?_
    | refine aw_exit ?_
    | refine aw_ret ?_
    | refine aw_cond_t rfl ?_
    | refine aw_cond_f rfl ?_
    | refine awl_skip rfl rfl ?_
    | refine awd_skip rfl rfl ?_)
  refine aw_cond rfl (fun h => ?_) (fun h => ?_)
  · repeat (first
      | refine awl_p rfl rfl rfl ?_
      | refine awd_p rfl rfl rfl ?_
      | refine awl_nil ?_
      | refine awd_nil ?_
      | refine aw_seq ?_
      | refine aw_reg ?_
      | (refine aw_draw ?_ ?_; · kernel_rfl)
      | refine awl_load rfl rfl rfl ?_
      | refine awd_load rfl rfl rfl ?_
      | refine awd_loadp rfl rfl rfl ?_
      | refine awl_alloc rfl rfl rfl rfl ?_
      | refine awd_alloc rfl rfl rfl rfl ?_
      | refine awl_store rfl rfl ?_
      | refine awd_store rfl rfl ?_
      | refine awl_build rfl rfl rfl ?_
      | refine awd_build rfl rfl rfl ?_
      | refine aw_block ?_
      | refine aw_skip ?_
      | refine aw_exit ?_
      | refine aw_ret ?_
      | refine aw_cond_t rfl ?_
      | refine aw_cond_f rfl ?_
      | refine awl_skip rfl rfl ?_
      | refine awd_skip rfl rfl ?_)
    refine bodyQ_ret [] false rfl rfl rfl ?_
    exact ⟨rfl, rfl⟩
  · repeat (first
      | refine awl_p rfl rfl rfl ?_
      | refine awd_p rfl rfl rfl ?_
      | refine awl_nil ?_
      | refine awd_nil ?_
      | refine aw_seq ?_
      | refine aw_reg ?_
      | (refine aw_draw ?_ ?_; · kernel_rfl)
      | refine awl_load rfl rfl rfl ?_
      | refine awd_load rfl rfl rfl ?_
      | refine awd_loadp rfl rfl rfl ?_
      | refine awl_alloc rfl rfl rfl rfl ?_
      | refine awd_alloc rfl rfl rfl rfl ?_
      | refine awl_store rfl rfl ?_
      | refine awd_store rfl rfl ?_
      | refine awl_build rfl rfl rfl ?_
      | refine awd_build rfl rfl rfl ?_
      | refine aw_block ?_
      | refine aw_skip ?_
      | refine aw_exit ?_
      | refine aw_ret ?_
      | refine aw_cond_t rfl ?_
      | refine aw_cond_f rfl ?_
      | refine awl_skip rfl rfl ?_
      | refine awd_skip rfl rfl ?_)
    refine awl_d (k := .m) rfl rfl (append_nil rfl rfl (SrcOf.sl rfl) rfl rfl rfl rfl rfl) ?_
    repeat (first
      | refine awl_p rfl rfl rfl ?_
      | refine awd_p rfl rfl rfl ?_
      | refine awl_nil ?_
      | refine awd_nil ?_
      | refine aw_seq ?_
      | refine aw_reg ?_
      | (refine aw_draw ?_ ?_; · kernel_rfl)
      | refine awl_load rfl rfl rfl ?_
      | refine awd_load rfl rfl rfl ?_
      | refine awd_loadp rfl rfl rfl ?_
      | refine awl_alloc rfl rfl rfl rfl ?_
      | refine awd_alloc rfl rfl rfl rfl ?_
      | refine awl_store rfl rfl ?_
      | refine awd_store rfl rfl ?_
      | refine awl_build rfl rfl rfl ?_
      | refine awd_build rfl rfl rfl ?_
      | refine aw_block ?_
      | refine aw_skip ?_
      | refine aw_exit ?_
      | refine aw_ret ?_
      | refine aw_cond_t rfl ?_
      | refine aw_cond_f rfl ?_
      | refine awl_skip rfl rfl ?_
      | refine awd_skip rfl rfl ?_)
    refine bodyQ_ret [] false rfl rfl rfl ?_
    exact ⟨rfl, rfl⟩
theorem clone_ok (m : List Pair) (h0 : m ≠ []) (hm : m.length ≤ 1000000) : ACalls Try.prog 68 [.sl (m.map encP)] [] (one (.arr 0 1) [.arr 1 77 2 (m.map encP)]) := by
  refine acalls_intro Try.func68 rfl (by kernel_rfl) Try.ntmps68 rfl rfl (fun w0 β0 ext hβ => ?_)
  repeat (first
    | refine awl_p rfl rfl rfl ?_
    | refine awd_p rfl rfl rfl ?_
    | refine awl_nil ?_
    | refine awd_nil ?_
    | refine aw_seq ?_
    | refine aw_reg ?_
    | (refine aw_draw ?_ ?_; · kernel_rfl)
    | refine awl_load rfl rfl rfl ?_
    | refine awd_load rfl rfl rfl ?_
    | refine awd_loadp rfl rfl rfl ?_
    | refine awl_alloc rfl rfl rfl rfl ?_
    | refine awd_alloc rfl rfl rfl rfl ?_
    | refine awl_store rfl rfl ?_
    | refine awd_store rfl rfl ?_
    | refine awl_build rfl rfl rfl ?_
    | refine awd_build rfl rfl rfl ?_
    | refine aw_block ?_
    | refine aw_skip ?_
    | refine aw_exit ?_
    | refine aw_ret ?_
    | refine aw_cond_t rfl ?_
    | refine aw_cond_f rfl ?_
    | refine awl_skip rfl rfl ?_
    | refine awd_skip rfl rfl ?_)
  refine awl_q rfl rfl (eq_nil rfl rfl rfl rfl) ?_
  rintro r H' ⟨⟨b, rfl, hb⟩, rfl⟩
  refine ⟨_, rfl, ?_⟩
  have hb : b = false := by
    cases b with
    | false => rfl
    | true => exact absurd (by simpa using hb rfl) h0
  subst hb
  repeat (first
    | refine awl_p rfl rfl rfl ?_
    | refine awd_p rfl rfl rfl ?_
    | refine awl_nil ?_
    | refine awd_nil ?_
    | refine aw_seq ?_
    | refine aw_reg ?_
    | (refine aw_draw ?_ ?_; · kernel_rfl)
    | refine awl_load rfl rfl rfl ?_
    | refine awd_load rfl rfl rfl ?_
    | refine awd_loadp rfl rfl rfl ?_
    | refine awl_alloc rfl rfl rfl rfl ?_
    | refine awd_alloc rfl rfl rfl rfl ?_
    | refine awl_store rfl rfl ?_
    | refine awd_store rfl rfl ?_
    | refine awl_build rfl rfl rfl ?_
    | refine awd_build rfl rfl rfl ?_
    | refine aw_block ?_
    | refine aw_skip ?_
    | refine aw_exit ?_
    | refine aw_ret ?_
    | refine aw_cond_t rfl ?_
    | refine aw_cond_f rfl ?_
    | refine awl_skip rfl rfl ?_
    | refine awd_skip rfl rfl ?_)
  refine awl_d rfl rfl (append_new rfl rfl (.sl rfl) rfl rfl rfl rfl rfl elems_nil (elemsP m) rfl (by simpa using h0) (by simp [ty77]; omega) (by simp; omega)) ?_
  repeat (first
    | refine awl_p rfl rfl rfl ?_
    | refine awd_p rfl rfl rfl ?_
    | refine awl_nil ?_
    | refine awd_nil ?_
    | refine aw_seq ?_
    | refine aw_reg ?_
    | (refine aw_draw ?_ ?_; · kernel_rfl)
    | refine awl_load rfl rfl rfl ?_
    | refine awd_load rfl rfl rfl ?_
    | refine awd_loadp rfl rfl rfl ?_
    | refine awl_alloc rfl rfl rfl rfl ?_
    | refine awd_alloc rfl rfl rfl rfl ?_
    | refine awl_store rfl rfl ?_
    | refine awd_store rfl rfl ?_
    | refine awl_build rfl rfl rfl ?_
    | refine awd_build rfl rfl rfl ?_
    | refine aw_block ?_
    | refine aw_skip ?_
    | refine aw_exit ?_
    | refine aw_ret ?_
    | refine aw_cond_t rfl ?_
    | refine aw_cond_f rfl ?_
    | refine awl_skip rfl rfl ?_
    | refine awd_skip rfl rfl ?_)
  refine bodyQ_ret [0] false rfl rfl rfl ?_
  exact ⟨rfl, rfl⟩

def insP (m : List Pair) (i : Nat) (p : Pair) : List Pair := m.take i ++ p :: m.drop i

theorem grow_list {xs Z sp : List AVal} {p : AVal} {i : Nat} (hi : i ≤ xs.length) (hZ : Z.length = xs.length + 1 - i) :
    ((((xs.take i ++ Z ++ sp).take i ++ [p] ++ (xs.take i ++ Z ++ sp).drop (i + 1)).take (i + 1) ++ (xs.drop i).take (xs.length - i) ++ ((xs.take i ++ Z ++ sp).take i ++ [p] ++ (xs.take i ++ Z ++ sp).drop (i + 1)).drop (i + 1 + (xs.length - i))).take (xs.length + 1)) = xs.take i ++ p :: xs.drop i := by
  have h1 : (xs.take i).length = i := by rw [List.length_take]; omega
  have h2 : (xs.take i ++ Z ++ sp).take i = xs.take i := by rw [List.append_assoc, List.take_append_of_le_length (by omega)]; exact List.take_of_length_le (by omega)
  rw [h2]
  have h3 : (xs.take i ++ [p]).length = i + 1 := by simp; omega
  have h4 : ∀ Y : List AVal, (xs.take i ++ [p] ++ Y).take (i + 1) = xs.take i ++ [p] := fun Y => by
    rw [List.take_append_of_le_length (by omega)]; exact List.take_of_length_le (by omega)
  rw [h4]
  have h5 : (xs.drop i).take (xs.length - i) = xs.drop i := List.take_of_length_le (by rw [List.length_drop]; omega)
  rw [h5, List.take_append_of_le_length (by simp; omega)]
  rw [List.take_of_length_le (by simp; omega)]
  simp

theorem shift_list {xs sp : List AVal} {p : AVal} {i : Nat} (hi : i ≤ xs.length) (hs : 1 ≤ sp.length) :
    ((((xs ++ sp).take (i + 1) ++ ((xs ++ sp).drop i).take (xs.length - i) ++ (xs ++ sp).drop (i + 1 + (xs.length - i))).take i ++ [p] ++ ((xs ++ sp).take (i + 1) ++ ((xs ++ sp).drop i).take (xs.length - i) ++ (xs ++ sp).drop (i + 1 + (xs.length - i))).drop (i + 1)).take (xs.length + 1)) = xs.take i ++ p :: xs.drop i := by
  have h1 : (xs.take i).length = i := by rw [List.length_take]; omega
  have h2 : ((xs ++ sp).take (i + 1)).take i = xs.take i := by
    rw [List.take_take, Nat.min_eq_left (by omega), List.take_append_of_le_length hi]
  have h3 : ((xs ++ sp).drop i).take (xs.length - i) = xs.drop i := by
    rw [List.drop_append_of_le_length hi, List.take_append_of_le_length (by simp), List.take_of_length_le (by simp)]
  have h4 : ((xs ++ sp).take (i + 1)).length = i + 1 := by rw [List.length_take, List.length_append]; omega
  rw [h3]
  generalize (xs ++ sp).take (i + 1) = A at h2 h4
  generalize (xs ++ sp).drop (i + 1 + (xs.length - i)) = B
  have h5 : (A ++ xs.drop i ++ B).take i = xs.take i := by
    rw [List.append_assoc, List.take_append_of_le_length (by omega), h2]
  have h6 : (A ++ xs.drop i ++ B).drop (i + 1) = xs.drop i ++ B := by
    rw [List.append_assoc, ← h4, List.drop_left]
  rw [h5, h6, show xs.take i ++ [p] ++ (xs.drop i ++ B) = (xs.take i ++ p :: xs.drop i) ++ B by simp]
  have h7 : (xs.take i ++ p :: xs.drop i).length = xs.length + 1 := by simp; omega
  rw [← h7, List.take_left]

set_option maxRecDepth 100000 in
set_option maxHeartbeats 4000000 in
theorem insert_ok (m : List Pair) (i : Nat) (p : Pair) (h0 : m ≠ []) (hi : i ≤ m.length) (hm : m.length ≤ 1000000) :
    ACalls Try.prog 69 [.arr 0 1, .v (.int .i64 i), .arr 1 1] [.arr 1 77 2 (m.map encP), .arr 1 77 2 [encP p]] (one (.sl ((insP m i p).map encP)) [.dead 4, .arr 1 77 2 [encP p]]) := by
  have hl : (m.map encP).length = m.length := List.length_map ..
  have hne : m.map encP ≠ [] := by simpa using h0
  generalize hxs : m.map encP = xs at hl hne
  have hel : ElemsOk 2 xs := hxs ▸ elemsP m
  refine acalls_intro Try.func69 rfl (by kernel_rfl) Try.ntmps69 rfl rfl (fun w0 β0 ext hβ => ?_)
  repeat (first
    | refine awl_p rfl rfl rfl ?_
    | refine awd_p rfl rfl rfl ?_
    | refine awl_nil ?_
    | refine awd_nil ?_
    | refine aw_seq ?_
    | refine aw_reg ?_
    | (refine aw_draw ?_ ?_; · kernel_rfl)
    | refine awl_load rfl rfl rfl ?_
    | refine awd_load rfl rfl rfl ?_
    | refine awd_loadp rfl rfl rfl ?_
    | refine awl_alloc rfl rfl rfl rfl ?_
    | refine awd_alloc rfl rfl rfl rfl ?_
    | refine awl_store rfl rfl ?_
    | refine awd_store rfl rfl ?_
    | refine awl_build rfl rfl rfl ?_
    | refine awd_build rfl rfl rfl ?_
    | refine aw_block ?_
    | refine aw_skip ?_
    | refine aw_exit ?_
    | refine aw_ret ?_
    | refine aw_cond_t rfl ?_
    | refine aw_cond_f rfl ?_
    | refine awl_skip rfl rfl ?_
    | refine awd_skip rfl rfl ?_)
  refine awl_q rfl rfl (cut_dull (l := i) (h := xs.length) (mm := 0) (xs := xs) (bt := 77) (es := 2) rfl rfl ⟨.i64, rfl⟩ rfl (.inl rfl) rfl rfl rfl (by intro h; cases h) (by omega) (by omega) (by omega) (by intro h; exact absurd rfl h)) ?_
  rintro r H' ⟨⟨u, rfl⟩, rfl⟩
  refine ⟨_, rfl, ?_⟩
  repeat (first
    | refine awl_p rfl rfl rfl ?_
    | refine awd_p rfl rfl rfl ?_
    | refine awl_nil ?_
    | refine awd_nil ?_
    | refine aw_seq ?_
    | refine aw_reg ?_
    | (refine aw_draw ?_ ?_; · kernel_rfl)
    | refine awl_load rfl rfl rfl ?_
    | refine awd_load rfl rfl rfl ?_
    | refine awd_loadp rfl rfl rfl ?_
    | refine awl_alloc rfl rfl rfl rfl ?_
    | refine awd_alloc rfl rfl rfl rfl ?_
    | refine awl_store rfl rfl ?_
    | refine awd_store rfl rfl ?_
    | refine awl_build rfl rfl rfl ?_
    | refine awd_build rfl rfl rfl ?_
    | refine aw_block ?_
    | refine aw_skip ?_
    | refine aw_exit ?_
    | refine aw_ret ?_
    | refine aw_cond_t rfl ?_
    | refine aw_cond_f rfl ?_
    | refine awl_skip rfl rfl ?_
    | refine awd_skip rfl rfl ?_)
  refine awl_d rfl rfl (len_arr rfl rfl rfl rfl) ?_
  repeat (first
    | refine awl_p rfl rfl rfl ?_
    | refine awd_p rfl rfl rfl ?_
    | refine awl_nil ?_
    | refine awd_nil ?_
    | refine aw_seq ?_
    | refine aw_reg ?_
    | (refine aw_draw ?_ ?_; · kernel_rfl)
    | refine awl_load rfl rfl rfl ?_
    | refine awd_load rfl rfl rfl ?_
    | refine awd_loadp rfl rfl rfl ?_
    | refine awl_alloc rfl rfl rfl rfl ?_
    | refine awd_alloc rfl rfl rfl rfl ?_
    | refine awl_store rfl rfl ?_
    | refine awd_store rfl rfl ?_
    | refine awl_build rfl rfl rfl ?_
    | refine awd_build rfl rfl rfl ?_
    | refine aw_block ?_
    | refine aw_skip ?_
    | refine aw_exit ?_
    | refine aw_ret ?_
    | refine aw_cond_t rfl ?_
    | refine aw_cond_f rfl ?_
    | refine awl_skip rfl rfl ?_
    | refine awd_skip rfl rfl ?_)
  refine awl_d rfl rfl (len_arr rfl rfl rfl rfl) ?_
  repeat (first
    | refine awl_p rfl rfl rfl ?_
    | refine awd_p rfl rfl rfl ?_
    | refine awl_nil ?_
    | refine awd_nil ?_
    | refine aw_seq ?_
    | refine aw_reg ?_
    | (refine aw_draw ?_ ?_; · kernel_rfl)
    | refine awl_load rfl rfl rfl ?_
    | refine awd_load rfl rfl rfl ?_
    | refine awd_loadp rfl rfl rfl ?_
    | refine awl_alloc rfl rfl rfl rfl ?_
    | refine awd_alloc rfl rfl rfl rfl ?_
    | refine awl_store rfl rfl ?_
    | refine awd_store rfl rfl ?_
    | refine awl_build rfl rfl rfl ?_
    | refine awd_build rfl rfl rfl ?_
    | refine aw_block ?_
    | refine aw_skip ?_
    | refine aw_exit ?_
    | refine aw_ret ?_
    | refine aw_cond_t rfl ?_
    | refine aw_cond_f rfl ?_
    | refine awl_skip rfl rfl ?_
    | refine awd_skip rfl rfl ?_)
  refine aw_cond rfl (fun h => ?_) (fun h => ?_)
  · have h : (i : Int) = xs.length := by simpa using h
    repeat (first
      | refine awl_p rfl rfl rfl ?_
      | refine awd_p rfl rfl rfl ?_
      | refine awl_nil ?_
      | refine awd_nil ?_
      | refine aw_seq ?_
      | refine aw_reg ?_
      | (refine aw_draw ?_ ?_; · kernel_rfl)
      | refine awl_load rfl rfl rfl ?_
      | refine awd_load rfl rfl rfl ?_
      | refine awd_loadp rfl rfl rfl ?_
      | refine awl_alloc rfl rfl rfl rfl ?_
      | refine awd_alloc rfl rfl rfl rfl ?_
      | refine awl_store rfl rfl ?_
      | refine awd_store rfl rfl ?_
      | refine awl_build rfl rfl rfl ?_
      | refine awd_build rfl rfl rfl ?_
      | refine aw_block ?_
      | refine aw_skip ?_
      | refine aw_exit ?_
      | refine aw_ret ?_
      | refine aw_cond_t rfl ?_
      | refine aw_cond_f rfl ?_
      | refine awl_skip rfl rfl ?_
      | refine awd_skip rfl rfl ?_)
    refine awl_d rfl rfl (append_own rfl rfl rfl (.arr rfl) rfl rfl rfl rfl rfl hel (elemsP [p]) rfl (by simp [ty77]; omega) (by simp; omega)) ?_
    refine awl_p rfl rfl rfl ?_
    refine awl_nil ?_
    refine aw_publish [6] 4 rfl rfl 6 rfl rfl ?_
    repeat (first
      | refine awl_p rfl rfl rfl ?_
      | refine awd_p rfl rfl rfl ?_
      | refine awl_nil ?_
      | refine awd_nil ?_
      | refine aw_seq ?_
      | refine aw_reg ?_
      | (refine aw_draw ?_ ?_; · kernel_rfl)
      | refine awl_load rfl rfl rfl ?_
      | refine awd_load rfl rfl rfl ?_
      | refine awd_loadp rfl rfl rfl ?_
      | refine awl_alloc rfl rfl rfl rfl ?_
      | refine awd_alloc rfl rfl rfl rfl ?_
      | refine awl_store rfl rfl ?_
      | refine awd_store rfl rfl ?_
      | refine awl_build rfl rfl rfl ?_
      | refine awd_build rfl rfl rfl ?_
      | refine aw_block ?_
      | refine aw_skip ?_
      | refine aw_exit ?_
      | refine aw_ret ?_
      | refine aw_cond_t rfl ?_
      | refine aw_cond_f rfl ?_
      | refine awl_skip rfl rfl ?_
      | refine awd_skip rfl rfl ?_
      | refine bodyQ_ret [] true rfl rfl rfl ?_)
    refine one_ok ?_ rfl
    have : i = m.length := by omega
    subst this
    simp [insP, ← hxs]
  · have h : ¬ (i : Int) = xs.length := by simpa using h
    refine aw_skip ?_
    refine aw_expose [0] rfl 0 rfl rfl hne (fun sp => ?_)
    repeat (first
      | refine awl_p rfl rfl rfl ?_
      | refine awd_p rfl rfl rfl ?_
      | refine awl_nil ?_
      | refine awd_nil ?_
      | refine aw_seq ?_
      | refine aw_reg ?_
      | (refine aw_draw ?_ ?_; · kernel_rfl)
      | refine awl_load rfl rfl rfl ?_
      | refine awd_load rfl rfl rfl ?_
      | refine awd_loadp rfl rfl rfl ?_
      | refine awl_alloc rfl rfl rfl rfl ?_
      | refine awd_alloc rfl rfl rfl rfl ?_
      | refine awl_store rfl rfl ?_
      | refine awd_store rfl rfl ?_
      | refine awl_build rfl rfl rfl ?_
      | refine awd_build rfl rfl rfl ?_
      | refine aw_block ?_
      | refine aw_skip ?_
      | refine aw_exit ?_
      | refine aw_ret ?_
      | refine aw_cond_t rfl ?_
      | refine aw_cond_f rfl ?_
      | refine awl_skip rfl rfl ?_
      | refine awd_skip rfl rfl ?_)
    refine awl_d rfl rfl (cap_row rfl rfl rfl rfl (.inr rfl)) ?_
    repeat (first
      | refine awl_p rfl rfl rfl ?_
      | refine awd_p rfl rfl rfl ?_
      | refine awl_nil ?_
      | refine awd_nil ?_
      | refine aw_seq ?_
      | refine aw_reg ?_
      | (refine aw_draw ?_ ?_; · kernel_rfl)
      | refine awl_load rfl rfl rfl ?_
      | refine awd_load rfl rfl rfl ?_
      | refine awd_loadp rfl rfl rfl ?_
      | refine awl_alloc rfl rfl rfl rfl ?_
      | refine awd_alloc rfl rfl rfl rfl ?_
      | refine awl_store rfl rfl ?_
      | refine awd_store rfl rfl ?_
      | refine awl_build rfl rfl rfl ?_
      | refine awd_build rfl rfl rfl ?_
      | refine aw_block ?_
      | refine aw_skip ?_
      | refine aw_exit ?_
      | refine aw_ret ?_
      | refine aw_cond_t rfl ?_
      | refine aw_cond_f rfl ?_
      | refine awl_skip rfl rfl ?_
      | refine awd_skip rfl rfl ?_)
    have w1 : IntKind.i64.wrap ((xs.length : Int) + (([encP p].length : Nat) : Int)) = ((xs.length + 1 : Nat) : Int) := by
      rw [wrap_id] <;> simp <;> omega
    have w2 : IntKind.i64.wrap ((i : Int) + (([encP p].length : Nat) : Int)) = ((i + 1 : Nat) : Int) := by
      rw [wrap_id] <;> simp <;> omega
    have hel2 : ElemsOk 2 (((xs ++ sp).drop i).take (xs.length - i)) := by
      have : ((xs ++ sp).drop i).take (xs.length - i) = xs.drop i := by
        rw [List.drop_append_of_le_length (by omega), List.take_append_of_le_length (by simp), List.take_of_length_le (by simp)]
      rw [this]; exact elems_drop _ hel
    refine aw_cond rfl (fun h2 => ?_) (fun h2 => ?_)
    · have h2 := of_decide_eq_true h2
      have hsp : sp = [] := by
        simp only [gt_iff_lt] at h2
        rw [w1] at h2
        have : (xs ++ sp).length < xs.length + 1 := by omega
        rw [List.length_append] at this
        exact List.length_eq_zero_iff.1 (by omega)
      subst hsp
      repeat (first
        | refine awl_p rfl rfl rfl ?_
        | refine awd_p rfl rfl rfl ?_
        | refine awl_nil ?_
        | refine awd_nil ?_
        | refine aw_seq ?_
        | refine aw_reg ?_
        | (refine aw_draw ?_ ?_; · kernel_rfl)
        | refine awl_load rfl rfl rfl ?_
        | refine awd_load rfl rfl rfl ?_
        | refine awd_loadp rfl rfl rfl ?_
        | refine awl_alloc rfl rfl rfl rfl ?_
        | refine awd_alloc rfl rfl rfl rfl ?_
        | refine awl_store rfl rfl ?_
        | refine awd_store rfl rfl ?_
        | refine awl_build rfl rfl rfl ?_
        | refine awd_build rfl rfl rfl ?_
        | refine aw_block ?_
        | refine aw_skip ?_
        | refine aw_exit ?_
        | refine aw_ret ?_
        | refine aw_cond_t rfl ?_
        | refine aw_cond_f rfl ?_
        | refine awl_skip rfl rfl ?_
        | refine awd_skip rfl rfl ?_)
      refine awl_d rfl rfl (cut_row0 (l := 0) (h := i) rfl rfl rfl ⟨.i64, rfl⟩ rfl rfl rfl (.inr rfl) (by omega) (by simp; omega)) ?_
      repeat (first
        | refine awl_p rfl rfl rfl ?_
        | refine awd_p rfl rfl rfl ?_
        | refine awl_nil ?_
        | refine awd_nil ?_
        | refine aw_seq ?_
        | refine aw_reg ?_
        | (refine aw_draw ?_ ?_; · kernel_rfl)
        | refine awl_load rfl rfl rfl ?_
        | refine awd_load rfl rfl rfl ?_
        | refine awd_loadp rfl rfl rfl ?_
        | refine awl_alloc rfl rfl rfl rfl ?_
        | refine awd_alloc rfl rfl rfl rfl ?_
        | refine awl_store rfl rfl ?_
        | refine awd_store rfl rfl ?_
        | refine awl_build rfl rfl rfl ?_
        | refine awd_build rfl rfl rfl ?_
        | refine aw_block ?_
        | refine aw_skip ?_
        | refine aw_exit ?_
        | refine aw_ret ?_
        | refine aw_cond_t rfl ?_
        | refine aw_cond_f rfl ?_
        | refine awl_skip rfl rfl ?_
        | refine awd_skip rfl rfl ?_)
      have w3 : IntKind.i64.wrap (IntKind.i64.wrap ((xs.length : Int) + (([encP p].length : Nat) : Int)) - (i : Int)) = ((xs.length + 1 - i : Nat) : Int) := by
        rw [w1, wrap_id] <;> omega
      refine awl_re 39 rfl (int_re w3) ?_
      refine awl_d rfl rfl (append_zeros rfl rfl rfl rfl rfl rfl rfl rfl rfl rfl rfl (elems_take _ (show ElemsOk 2 (xs ++ []) by simpa using hel)) (by omega) (by simp; omega) (by simp [ty77]; omega)) ?_
      refine awl_p rfl rfl rfl ?_
      refine awl_nil ?_
      refine aw_heap_re (H' := [.row 2 77 2 xs, .arr 1 77 2 [encP p], .arr 1 77 2 (xs.take i ++ List.replicate (xs.length + 1 - i) (zeroA ty77))]) (by simp; rfl) ?_
      refine aw_seq ?_
      have hZl : (List.replicate (xs.length + 1 - i) (zeroA ty77)).length = xs.length + 1 - i := by simp
      generalize List.replicate (xs.length + 1 - i) (zeroA ty77) = Z at hZl
      have hYl : (xs.take i ++ Z).length = xs.length + 1 := by simp [hZl]; omega
      refine aw_expose [9] rfl 9 rfl rfl (by intro h; rw [h] at hYl; simp at hYl) (fun sp => ?_)
      refine aw_re 9 rfl (congrArg (AVal.hd 2 2 0) hYl) ?_
      repeat (first
        | refine awl_p rfl rfl rfl ?_
        | refine awd_p rfl rfl rfl ?_
        | refine awl_nil ?_
        | refine awd_nil ?_
        | refine aw_seq ?_
        | refine aw_reg ?_
        | (refine aw_draw ?_ ?_; · kernel_rfl)
        | refine awl_load rfl rfl rfl ?_
        | refine awd_load rfl rfl rfl ?_
        | refine awd_loadp rfl rfl rfl ?_
        | refine awl_alloc rfl rfl rfl rfl ?_
        | refine awd_alloc rfl rfl rfl rfl ?_
        | refine awl_store rfl rfl ?_
        | refine awd_store rfl rfl ?_
        | refine awl_build rfl rfl rfl ?_
        | refine awd_build rfl rfl rfl ?_
        | refine aw_block ?_
        | refine aw_skip ?_
        | refine aw_exit ?_
        | refine aw_ret ?_
        | refine aw_cond_t rfl ?_
        | refine aw_cond_f rfl ?_
        | refine awl_skip rfl rfl ?_
        | refine awd_skip rfl rfl ?_)
      refine awl_d rfl rfl (cut_row0 (l := i) (h := xs.length + 1) rfl rfl ⟨.i64, rfl⟩ rfl rfl rfl rfl (.inr rfl) (by omega) (by simp [hZl]; omega)) ?_
      repeat (first
        | refine awl_p rfl rfl rfl ?_
        | refine awd_p rfl rfl rfl ?_
        | refine awl_nil ?_
        | refine awd_nil ?_
        | refine aw_seq ?_
        | refine aw_reg ?_
        | (refine aw_draw ?_ ?_; · kernel_rfl)
        | refine awl_load rfl rfl rfl ?_
        | refine awd_load rfl rfl rfl ?_
        | refine awd_loadp rfl rfl rfl ?_
        | refine awl_alloc rfl rfl rfl rfl ?_
        | refine awd_alloc rfl rfl rfl rfl ?_
        | refine awl_store rfl rfl ?_
        | refine awd_store rfl rfl ?_
        | refine awl_build rfl rfl rfl ?_
        | refine awd_build rfl rfl rfl ?_
        | refine aw_block ?_
        | refine aw_skip ?_
        | refine aw_exit ?_
        | refine aw_ret ?_
        | refine aw_cond_t rfl ?_
        | refine aw_cond_f rfl ?_
        | refine awl_skip rfl rfl ?_
        | refine awd_skip rfl rfl ?_)
      refine awl_d rfl rfl (copy_row (k := 1) rfl rfl rfl (SrcK.of (.arr rfl) (elemsP [p]) (by simp)) rfl rfl rfl (by simp; omega) (by omega)) ?_
      refine awl_nil ?_
      refine aw_heap_re (H' := [.row 2 77 2 xs, .arr 1 77 2 [encP p], .row 2 77 2 ((xs.take i ++ Z ++ sp).take i ++ [encP p] ++ (xs.take i ++ Z ++ sp).drop (i + 1))]) (by simp; rfl) ?_
      have hBl : ((xs.take i ++ Z ++ sp).take i ++ [encP p] ++ (xs.take i ++ Z ++ sp).drop (i + 1)).length = xs.length + 1 + sp.length := by simp [hZl]; omega
      refine aw_seq ?_
      refine aw_drawP [(0, .p), (1, .p), (2, .p), (3, .p), (4, .s), (5, .p), (6, .p), (7, .s), (8, .x)] rfl (by kernel_rfl) ?_
      repeat (first
        | refine awl_p rfl rfl rfl ?_
        | refine awd_p rfl rfl rfl ?_
        | refine awl_nil ?_
        | refine awd_nil ?_
        | refine aw_seq ?_
        | refine aw_reg ?_
        | (refine aw_draw ?_ ?_; · kernel_rfl)
        | refine awl_load rfl rfl rfl ?_
        | refine awd_load rfl rfl rfl ?_
        | refine awd_loadp rfl rfl rfl ?_
        | refine awl_alloc rfl rfl rfl rfl ?_
        | refine awd_alloc rfl rfl rfl rfl ?_
        | refine awl_store rfl rfl ?_
        | refine awd_store rfl rfl ?_
        | refine awl_build rfl rfl rfl ?_
        | refine awd_build rfl rfl rfl ?_
        | refine aw_block ?_
        | refine aw_skip ?_
        | refine aw_exit ?_
        | refine aw_ret ?_
        | refine aw_cond_t rfl ?_
        | refine aw_cond_f rfl ?_
        | refine awl_skip rfl rfl ?_
        | refine awd_skip rfl rfl ?_)
      refine awd_re 49 rfl (int_re w2) ?_
      refine awd_d rfl rfl (cut_row0 (l := i + 1) (h := xs.length + 1) rfl rfl ⟨.i64, rfl⟩ rfl rfl rfl rfl (.inr rfl) (by omega) (by rw [hBl]; omega)) ?_
      repeat (first
        | refine awl_p rfl rfl rfl ?_
        | refine awd_p rfl rfl rfl ?_
        | refine awl_nil ?_
        | refine awd_nil ?_
        | refine aw_seq ?_
        | refine aw_reg ?_
        | (refine aw_draw ?_ ?_; · kernel_rfl)
        | refine awl_load rfl rfl rfl ?_
        | refine awd_load rfl rfl rfl ?_
        | refine awd_loadp rfl rfl rfl ?_
        | refine awl_alloc rfl rfl rfl rfl ?_
        | refine awd_alloc rfl rfl rfl rfl ?_
        | refine awl_store rfl rfl ?_
        | refine awd_store rfl rfl ?_
        | refine awl_build rfl rfl rfl ?_
        | refine awd_build rfl rfl rfl ?_
        | refine aw_block ?_
        | refine aw_skip ?_
        | refine aw_exit ?_
        | refine aw_ret ?_
        | refine aw_cond_t rfl ?_
        | refine aw_cond_f rfl ?_
        | refine awl_skip rfl rfl ?_
        | refine awd_skip rfl rfl ?_)
      refine awd_d rfl rfl (cut_row0 (l := i) (h := xs.length) rfl rfl ⟨.i64, rfl⟩ rfl rfl rfl rfl (.inr rfl) (by omega) (by simp)) ?_
      refine awd_d rfl rfl (copy_row (k := xs.length - i) rfl rfl rfl (SrcK.hd rfl (Nat.le_refl _) (by omega) (show ElemsOk 2 _ by simpa using hel2)) rfl rfl rfl (by omega) (by omega)) ?_
      refine awd_nil ?_
      refine aw_shrink [9] rfl 9 rfl rfl ?_
      refine aw_kill 0 4 rfl rfl ?_
      repeat (first
        | refine awl_p rfl rfl rfl ?_
        | refine awd_p rfl rfl rfl ?_
        | refine awl_nil ?_
        | refine awd_nil ?_
        | refine aw_seq ?_
        | refine aw_reg ?_
        | (refine aw_draw ?_ ?_; · kernel_rfl)
        | refine awl_load rfl rfl rfl ?_
        | refine awd_load rfl rfl rfl ?_
        | refine awd_loadp rfl rfl rfl ?_
        | refine awl_alloc rfl rfl rfl rfl ?_
        | refine awd_alloc rfl rfl rfl rfl ?_
        | refine awl_store rfl rfl ?_
        | refine awd_store rfl rfl ?_
        | refine awl_build rfl rfl rfl ?_
        | refine awd_build rfl rfl rfl ?_
        | refine aw_block ?_
        | refine aw_skip ?_
        | refine aw_exit ?_
        | refine aw_ret ?_
        | refine aw_cond_t rfl ?_
        | refine aw_cond_f rfl ?_
        | refine awl_skip rfl rfl ?_
        | refine awd_skip rfl rfl ?_
        | refine bodyQ_ret [] true rfl rfl rfl ?_)
      refine one_ok ?_ rfl
      refine congrArg AVal.sl ?_
      have := grow_list (sp := sp) (p := encP p) (show i ≤ xs.length by omega) hZl
      simp only [Nat.zero_add]
      rw [this, ← hxs]
      simp [insP]
    · have h2 := of_decide_eq_false h2
      have hsp : 1 ≤ sp.length := by
        simp only [gt_iff_lt] at h2
        rw [w1] at h2
        have : ¬ (xs ++ sp).length < xs.length + 1 := by omega
        rw [List.length_append] at this
        omega
      refine aw_skip ?_
      repeat (first
        | refine awl_p rfl rfl rfl ?_
        | refine awd_p rfl rfl rfl ?_
        | refine awl_nil ?_
        | refine awd_nil ?_
        | refine aw_seq ?_
        | refine aw_reg ?_
        | (refine aw_draw ?_ ?_; · kernel_rfl)
        | refine awl_load rfl rfl rfl ?_
        | refine awd_load rfl rfl rfl ?_
        | refine awd_loadp rfl rfl rfl ?_
        | refine awl_alloc rfl rfl rfl rfl ?_
        | refine awd_alloc rfl rfl rfl rfl ?_
        | refine awl_store rfl rfl ?_
        | refine awd_store rfl rfl ?_
        | refine awl_build rfl rfl rfl ?_
        | refine awd_build rfl rfl rfl ?_
        | refine aw_block ?_
        | refine aw_skip ?_
        | refine aw_exit ?_
        | refine aw_ret ?_
        | refine aw_cond_t rfl ?_
        | refine aw_cond_f rfl ?_
        | refine awl_skip rfl rfl ?_
        | refine awd_skip rfl rfl ?_)
      refine awl_re 59 rfl (int_re w1) ?_
      refine awl_d rfl rfl (cut_row0 (l := 0) (h := xs.length + 1) rfl rfl rfl ⟨.i64, rfl⟩ rfl rfl rfl (.inr rfl) (by omega) (by simp; omega)) ?_
      repeat (first
        | refine awl_p rfl rfl rfl ?_
        | refine awd_p rfl rfl rfl ?_
        | refine awl_nil ?_
        | refine awd_nil ?_
        | refine aw_seq ?_
        | refine aw_reg ?_
        | (refine aw_draw ?_ ?_; · kernel_rfl)
        | refine awl_load rfl rfl rfl ?_
        | refine awd_load rfl rfl rfl ?_
        | refine awd_loadp rfl rfl rfl ?_
        | refine awl_alloc rfl rfl rfl rfl ?_
        | refine awd_alloc rfl rfl rfl rfl ?_
        | refine awl_store rfl rfl ?_
        | refine awd_store rfl rfl ?_
        | refine awl_build rfl rfl rfl ?_
        | refine awd_build rfl rfl rfl ?_
        | refine aw_block ?_
        | refine aw_skip ?_
        | refine aw_exit ?_
        | refine aw_ret ?_
        | refine aw_cond_t rfl ?_
        | refine aw_cond_f rfl ?_
        | refine awl_skip rfl rfl ?_
        | refine awd_skip rfl rfl ?_)
      refine awl_re 65 rfl (int_re w2) ?_
      refine awl_d rfl rfl (cut_row0 (l := i + 1) (h := xs.length + 1) rfl rfl ⟨.i64, rfl⟩ rfl rfl rfl rfl (.inr rfl) (by omega) (by simp; omega)) ?_
      refine awl_d (k := .m) rfl rfl (overlaps_sem (tS := 22) (tR := 4) rfl rfl rfl (by simp) rfl rfl (by decide) rfl rfl rfl (by kernel_rfl) (by kernel_rfl) rfl rfl rfl (by simp [hne]) (by decide)) ?_
      refine awl_p rfl rfl rfl ?_
      refine awl_nil ?_
      refine aw_cond_t rfl ?_
      refine aw_seq ?_
      refine aw_drawP [(0, .p), (1, .p), (2, .p), (3, .p), (4, .s), (5, .p), (6, .p), (7, .s), (8, .x)] rfl (by kernel_rfl) ?_
      repeat (first
        | refine awl_p rfl rfl rfl ?_
        | refine awd_p rfl rfl rfl ?_
        | refine awl_nil ?_
        | refine awd_nil ?_
        | refine aw_seq ?_
        | refine aw_reg ?_
        | (refine aw_draw ?_ ?_; · kernel_rfl)
        | refine awl_load rfl rfl rfl ?_
        | refine awd_load rfl rfl rfl ?_
        | refine awd_loadp rfl rfl rfl ?_
        | refine awl_alloc rfl rfl rfl rfl ?_
        | refine awd_alloc rfl rfl rfl rfl ?_
        | refine awl_store rfl rfl ?_
        | refine awd_store rfl rfl ?_
        | refine awl_build rfl rfl rfl ?_
        | refine awd_build rfl rfl rfl ?_
        | refine aw_block ?_
        | refine aw_skip ?_
        | refine aw_exit ?_
        | refine aw_ret ?_
        | refine aw_cond_t rfl ?_
        | refine aw_cond_f rfl ?_
        | refine awl_skip rfl rfl ?_
        | refine awd_skip rfl rfl ?_)
      refine awd_re 72 rfl (int_re w2) ?_
      refine awd_d rfl rfl (cut_row0 (l := i + 1) (h := xs.length + 1) rfl rfl ⟨.i64, rfl⟩ rfl rfl rfl rfl (.inr rfl) (by omega) (by simp; omega)) ?_
      repeat (first
        | refine awl_p rfl rfl rfl ?_
        | refine awd_p rfl rfl rfl ?_
        | refine awl_nil ?_
        | refine awd_nil ?_
        | refine aw_seq ?_
        | refine aw_reg ?_
        | (refine aw_draw ?_ ?_; · kernel_rfl)
        | refine awl_load rfl rfl rfl ?_
        | refine awd_load rfl rfl rfl ?_
        | refine awd_loadp rfl rfl rfl ?_
        | refine awl_alloc rfl rfl rfl rfl ?_
        | refine awd_alloc rfl rfl rfl rfl ?_
        | refine awl_store rfl rfl ?_
        | refine awd_store rfl rfl ?_
        | refine awl_build rfl rfl rfl ?_
        | refine awd_build rfl rfl rfl ?_
        | refine aw_block ?_
        | refine aw_skip ?_
        | refine aw_exit ?_
        | refine aw_ret ?_
        | refine aw_cond_t rfl ?_
        | refine aw_cond_f rfl ?_
        | refine awl_skip rfl rfl ?_
        | refine awd_skip rfl rfl ?_)
      refine awd_d rfl rfl (cut_row0 (l := i) (h := xs.length + 1) rfl rfl ⟨.i64, rfl⟩ rfl rfl rfl rfl (.inr rfl) (by omega) (by simp; omega)) ?_
      refine awd_d rfl rfl (copy_row (k := xs.length - i) rfl rfl rfl (SrcK.hd rfl (by omega) (by simp; omega) (show ElemsOk 2 _ by simpa using hel2)) rfl rfl rfl (by omega) (by omega)) ?_
      refine awd_nil ?_
      refine aw_heap_re (H' := [.row 2 77 2 ((xs ++ sp).take (i + 1) ++ ((xs ++ sp).drop i).take (xs.length - i) ++ (xs ++ sp).drop (i + 1 + (xs.length - i))), .arr 1 77 2 [encP p]]) (by simp only [Nat.zero_add]; rfl) ?_
      have hBl : ((xs ++ sp).take (i + 1) ++ ((xs ++ sp).drop i).take (xs.length - i) ++ (xs ++ sp).drop (i + 1 + (xs.length - i))).length = xs.length + sp.length := by simp; omega
      repeat (first
        | refine awl_p rfl rfl rfl ?_
        | refine awd_p rfl rfl rfl ?_
        | refine awl_nil ?_
        | refine awd_nil ?_
        | refine aw_seq ?_
        | refine aw_reg ?_
        | (refine aw_draw ?_ ?_; · kernel_rfl)
        | refine awl_load rfl rfl rfl ?_
        | refine awd_load rfl rfl rfl ?_
        | refine awd_loadp rfl rfl rfl ?_
        | refine awl_alloc rfl rfl rfl rfl ?_
        | refine awd_alloc rfl rfl rfl rfl ?_
        | refine awl_store rfl rfl ?_
        | refine awd_store rfl rfl ?_
        | refine awl_build rfl rfl rfl ?_
        | refine awd_build rfl rfl rfl ?_
        | refine aw_block ?_
        | refine aw_skip ?_
        | refine aw_exit ?_
        | refine aw_ret ?_
        | refine aw_cond_t rfl ?_
        | refine aw_cond_f rfl ?_
        | refine awl_skip rfl rfl ?_
        | refine awd_skip rfl rfl ?_)
      refine awl_d rfl rfl (cut_row0 (l := i) (h := xs.length + 1) rfl rfl ⟨.i64, rfl⟩ rfl rfl rfl rfl (.inr rfl) (by omega) (by rw [hBl]; omega)) ?_
      repeat (first
        | refine awl_p rfl rfl rfl ?_
        | refine awd_p rfl rfl rfl ?_
        | refine awl_nil ?_
        | refine awd_nil ?_
        | refine aw_seq ?_
        | refine aw_reg ?_
        | (refine aw_draw ?_ ?_; · kernel_rfl)
        | refine awl_load rfl rfl rfl ?_
        | refine awd_load rfl rfl rfl ?_
        | refine awd_loadp rfl rfl rfl ?_
        | refine awl_alloc rfl rfl rfl rfl ?_
        | refine awd_alloc rfl rfl rfl rfl ?_
        | refine awl_store rfl rfl ?_
        | refine awd_store rfl rfl ?_
        | refine awl_build rfl rfl rfl ?_
        | refine awd_build rfl rfl rfl ?_
        | refine aw_block ?_
        | refine aw_skip ?_
        | refine aw_exit ?_
        | refine aw_ret ?_
        | refine aw_cond_t rfl ?_
        | refine aw_cond_f rfl ?_
        | refine awl_skip rfl rfl ?_
        | refine awd_skip rfl rfl ?_)
      refine awl_d rfl rfl (copy_row (k := 1) rfl rfl rfl (SrcK.of (.arr rfl) (elemsP [p]) (by simp)) rfl rfl rfl (by simp; omega) (by omega)) ?_
      refine awl_nil ?_
      refine aw_shrink [0] rfl 0 rfl rfl ?_
      refine aw_publish [0] 4 rfl rfl 0 rfl rfl ?_
      repeat (first
        | refine awl_p rfl rfl rfl ?_
        | refine awd_p rfl rfl rfl ?_
        | refine awl_nil ?_
        | refine awd_nil ?_
        | refine aw_seq ?_
        | refine aw_reg ?_
        | (refine aw_draw ?_ ?_; · kernel_rfl)
        | refine awl_load rfl rfl rfl ?_
        | refine awd_load rfl rfl rfl ?_
        | refine awd_loadp rfl rfl rfl ?_
        | refine awl_alloc rfl rfl rfl rfl ?_
        | refine awd_alloc rfl rfl rfl rfl ?_
        | refine awl_store rfl rfl ?_
        | refine awd_store rfl rfl ?_
        | refine awl_build rfl rfl rfl ?_
        | refine awd_build rfl rfl rfl ?_
        | refine aw_block ?_
        | refine aw_skip ?_
        | refine aw_exit ?_
        | refine aw_ret ?_
        | refine aw_cond_t rfl ?_
        | refine aw_cond_f rfl ?_
        | refine awl_skip rfl rfl ?_
        | refine awd_skip rfl rfl ?_
        | refine bodyQ_ret [] true rfl rfl rfl ?_)
      refine one_ok ?_ rfl
      refine congrArg AVal.sl ?_
      have := shift_list (sp := sp) (p := encP p) (show i ≤ xs.length by omega) hsp
      simp only [Nat.zero_add]
      refine Eq.trans ?_ (this.trans ?_)
      · rfl
      · rw [← hxs]; simp [insP]

theorem insert_nil (p : Pair) : ACalls Try.prog 69 [.slf [], .v (.int .i64 0), .slf [encP p]] [] (one (.sl [encP p]) []) := by
  refine acalls_intro Try.func69 rfl (by kernel_rfl) Try.ntmps69 rfl rfl (fun w0 β0 ext hβ => ?_)
  repeat (first
    | refine awl_p rfl rfl rfl ?_
    | refine awd_p rfl rfl rfl ?_
    | refine awl_nil ?_
    | refine awd_nil ?_
    | refine aw_seq ?_
    | refine aw_reg ?_
    | (refine aw_draw ?_ ?_; · kernel_rfl)
    | refine awl_load rfl rfl rfl ?_
    | refine awd_load rfl rfl rfl ?_
    | refine awd_loadp rfl rfl rfl ?_
    | refine awl_alloc rfl rfl rfl rfl ?_
    | refine awd_alloc rfl rfl rfl rfl ?_
    | refine awl_store rfl rfl ?_
    | refine awd_store rfl rfl ?_
    | refine awl_build rfl rfl rfl ?_
    | refine awd_build rfl rfl rfl ?_
    | refine aw_block ?_
    | refine aw_skip ?_
    | refine aw_exit ?_
    | refine aw_ret ?_
    | refine aw_cond_t rfl ?_
    | refine aw_cond_f rfl ?_
    | refine awl_skip rfl rfl ?_
    | refine awd_skip rfl rfl ?_)
  refine awl_d rfl rfl (cut_sl (l := 0) (h := 0) rfl rfl ⟨.i64, rfl⟩ rfl rfl rfl rfl elems_nil (by omega) (by omega) (by simp)) ?_
  repeat (first
    | refine awl_p rfl rfl rfl ?_
    | refine awd_p rfl rfl rfl ?_
    | refine awl_nil ?_
    | refine awd_nil ?_
    | refine aw_seq ?_
    | refine aw_reg ?_
    | (refine aw_draw ?_ ?_; · kernel_rfl)
    | refine awl_load rfl rfl rfl ?_
    | refine awd_load rfl rfl rfl ?_
    | refine awd_loadp rfl rfl rfl ?_
    | refine awl_alloc rfl rfl rfl rfl ?_
    | refine awd_alloc rfl rfl rfl rfl ?_
    | refine awl_store rfl rfl ?_
    | refine awd_store rfl rfl ?_
    | refine awl_build rfl rfl rfl ?_
    | refine awd_build rfl rfl rfl ?_
    | refine aw_block ?_
    | refine aw_skip ?_
    | refine aw_exit ?_
    | refine aw_ret ?_
    | refine aw_cond_t rfl ?_
    | refine aw_cond_f rfl ?_
    | refine awl_skip rfl rfl ?_
    | refine awd_skip rfl rfl ?_)
  refine awl_d rfl rfl (append_new rfl rfl (.sl rfl) rfl rfl rfl rfl rfl elems_nil (elemsP [p]) rfl (by simp) (by simp [ty77]) (by simp)) ?_
  repeat (first
    | refine awl_p rfl rfl rfl ?_
    | refine awd_p rfl rfl rfl ?_
    | refine awl_nil ?_
    | refine awd_nil ?_
    | refine aw_seq ?_
    | refine aw_reg ?_
    | (refine aw_draw ?_ ?_; · kernel_rfl)
    | refine awl_load rfl rfl rfl ?_
    | refine awd_load rfl rfl rfl ?_
    | refine awd_loadp rfl rfl rfl ?_
    | refine awl_alloc rfl rfl rfl rfl ?_
    | refine awd_alloc rfl rfl rfl rfl ?_
    | refine awl_store rfl rfl ?_
    | refine awd_store rfl rfl ?_
    | refine awl_build rfl rfl rfl ?_
    | refine awd_build rfl rfl rfl ?_
    | refine aw_block ?_
    | refine aw_skip ?_
    | refine aw_exit ?_
    | refine aw_ret ?_
    | refine aw_cond_t rfl ?_
    | refine aw_cond_f rfl ?_
    | refine awl_skip rfl rfl ?_
    | refine awd_skip rfl rfl ?_
    | refine bodyQ_ret [] true rfl rfl rfl ?_)
  exact one_ok rfl rfl

def delP (m : List Pair) (i : Nat) : List Pair := m.take i ++ m.drop (i + 1)

theorem del_list {xs sp : List AVal} {z : AVal} {i : Nat} (hi : i < xs.length) :
    (((xs ++ sp).take i ++ ((xs ++ sp).drop (i + 1)).take (xs.length - (i + 1)) ++ (xs ++ sp).drop (i + (xs.length - (i + 1)))).take (xs.length - 1) ++ [z] ++ ((xs ++ sp).take i ++ ((xs ++ sp).drop (i + 1)).take (xs.length - (i + 1)) ++ (xs ++ sp).drop (i + (xs.length - (i + 1)))).drop (xs.length - 1 + 1)).take (xs.length - 1) = xs.take i ++ xs.drop (i + 1) := by
  have h2 : (xs ++ sp).take i = xs.take i := by rw [List.take_append_of_le_length (by omega)]
  have h3 : ((xs ++ sp).drop (i + 1)).take (xs.length - (i + 1)) = xs.drop (i + 1) := by
    rw [List.drop_append_of_le_length (by omega), List.take_append_of_le_length (by simp), List.take_of_length_le (by simp)]
  rw [h2, h3]
  have h7 : (xs.take i ++ xs.drop (i + 1)).length = xs.length - 1 := by simp; omega
  generalize (xs ++ sp).drop (i + (xs.length - (i + 1))) = B
  have h5 : (xs.take i ++ xs.drop (i + 1) ++ B).take (xs.length - 1) = xs.take i ++ xs.drop (i + 1) := by rw [← h7, List.take_left]
  rw [h5, List.append_assoc, ← h7, List.take_left]

set_option maxRecDepth 100000 in
set_option maxHeartbeats 4000000 in
theorem delete_ok (m : List Pair) (i : Nat) (hi : i < m.length) (hm : m.length ≤ 1000000) :
    ACalls Try.prog 70 [.arr 0 1, .v (.int .i64 i), .v (.int .i64 (i + 1 : Nat))] [.arr 1 77 2 (m.map encP)] (one (.sl ((delP m i).map encP)) [.dead 4]) := by
  have hl : (m.map encP).length = m.length := List.length_map ..
  have hne : m.map encP ≠ [] := by intro h; rw [h] at hl; simp at hl; omega
  generalize hxs : m.map encP = xs at hl hne
  have hel : ElemsOk 2 xs := hxs ▸ elemsP m
  refine acalls_intro Try.func70 rfl (by kernel_rfl) Try.ntmps70 rfl rfl (fun w0 β0 ext hβ => ?_)
  repeat (first
    | refine awl_p rfl rfl rfl ?_
    | refine awd_p rfl rfl rfl ?_
    | refine awl_nil ?_
    | refine awd_nil ?_
    | refine aw_seq ?_
    | refine aw_reg ?_
    | (refine aw_draw ?_ ?_; · kernel_rfl)
    | refine awl_load rfl rfl rfl ?_
    | refine awd_load rfl rfl rfl ?_
    | refine awd_loadp rfl rfl rfl ?_
    | refine awl_alloc rfl rfl rfl rfl ?_
    | refine awd_alloc rfl rfl rfl rfl ?_
    | refine awl_store rfl rfl ?_
    | refine awd_store rfl rfl ?_
    | refine awl_build rfl rfl rfl ?_
    | refine awd_build rfl rfl rfl ?_
    | refine aw_block ?_
    | refine aw_skip ?_
    | refine aw_exit ?_
    | refine aw_ret ?_
    | refine aw_cond_t rfl ?_
    | refine aw_cond_f rfl ?_
    | refine awl_skip rfl rfl ?_
    | refine awd_skip rfl rfl ?_)
  refine awl_d rfl rfl (len_arr rfl rfl rfl rfl) ?_
  refine awl_q rfl rfl (cut_dull (l := i) (h := (i + 1 : Nat)) (mm := xs.length) (xs := xs) (bt := 77) (es := 2) rfl rfl ⟨.i64, rfl⟩ ⟨.i64, rfl⟩ (.inr ⟨.i64, _, rfl, rfl⟩) rfl rfl rfl (fun _ => rfl) (by omega) (by omega) (by omega) (fun _ => by omega)) ?_
  rintro r H' ⟨⟨u, rfl⟩, rfl⟩
  refine ⟨_, rfl, ?_⟩
  repeat (first
    | refine awl_p rfl rfl rfl ?_
    | refine awd_p rfl rfl rfl ?_
    | refine awl_nil ?_
    | refine awd_nil ?_
    | refine aw_seq ?_
    | refine aw_reg ?_
    | (refine aw_draw ?_ ?_; · kernel_rfl)
    | refine awl_load rfl rfl rfl ?_
    | refine awd_load rfl rfl rfl ?_
    | refine awd_loadp rfl rfl rfl ?_
    | refine awl_alloc rfl rfl rfl rfl ?_
    | refine awd_alloc rfl rfl rfl rfl ?_
    | refine awl_store rfl rfl ?_
    | refine awd_store rfl rfl ?_
    | refine awl_build rfl rfl rfl ?_
    | refine awd_build rfl rfl rfl ?_
    | refine aw_block ?_
    | refine aw_skip ?_
    | refine aw_exit ?_
    | refine aw_ret ?_
    | refine aw_cond_t rfl ?_
    | refine aw_cond_f rfl ?_
    | refine awl_skip rfl rfl ?_
    | refine awd_skip rfl rfl ?_)
  refine aw_cond rfl (fun h => ?_) (fun h => ?_)
  · have h : (i : Int) = (i + 1 : Nat) := by simpa using h
    omega
  refine aw_skip ?_
  repeat (first
    | refine awl_p rfl rfl rfl ?_
    | refine awd_p rfl rfl rfl ?_
    | refine awl_nil ?_
    | refine awd_nil ?_
    | refine aw_seq ?_
    | refine aw_reg ?_
    | (refine aw_draw ?_ ?_; · kernel_rfl)
    | refine awl_load rfl rfl rfl ?_
    | refine awd_load rfl rfl rfl ?_
    | refine awd_loadp rfl rfl rfl ?_
    | refine awl_alloc rfl rfl rfl rfl ?_
    | refine awd_alloc rfl rfl rfl rfl ?_
    | refine awl_store rfl rfl ?_
    | refine awd_store rfl rfl ?_
    | refine awl_build rfl rfl rfl ?_
    | refine awd_build rfl rfl rfl ?_
    | refine aw_block ?_
    | refine aw_skip ?_
    | refine aw_exit ?_
    | refine aw_ret ?_
    | refine aw_cond_t rfl ?_
    | refine aw_cond_f rfl ?_
    | refine awl_skip rfl rfl ?_
    | refine awd_skip rfl rfl ?_)
  refine awl_d rfl rfl (len_arr rfl rfl rfl rfl) ?_
  refine awl_p rfl rfl rfl ?_
  refine awl_nil ?_
  refine aw_expose [0] rfl 0 rfl rfl hne (fun sp => ?_)
  have hel2 : ElemsOk 2 (((xs ++ sp).drop (i + 1)).take (xs.length - (i + 1))) := by
    have : ((xs ++ sp).drop (i + 1)).take (xs.length - (i + 1)) = xs.drop (i + 1) := by
      rw [List.drop_append_of_le_length (by omega), List.take_append_of_le_length (by simp), List.take_of_length_le (by simp)]
    rw [this]; exact elems_drop _ hel
  refine aw_seq ?_
  refine aw_drawP [(0, .p), (1, .p), (2, .s), (3, .p), (4, .p), (5, .s), (6, .x), (7, .p)] rfl (by kernel_rfl) ?_
  repeat (first
    | refine awl_p rfl rfl rfl ?_
    | refine awd_p rfl rfl rfl ?_
    | refine awl_nil ?_
    | refine awd_nil ?_
    | refine aw_seq ?_
    | refine aw_reg ?_
    | (refine aw_draw ?_ ?_; · kernel_rfl)
    | refine awl_load rfl rfl rfl ?_
    | refine awd_load rfl rfl rfl ?_
    | refine awd_loadp rfl rfl rfl ?_
    | refine awl_alloc rfl rfl rfl rfl ?_
    | refine awd_alloc rfl rfl rfl rfl ?_
    | refine awl_store rfl rfl ?_
    | refine awd_store rfl rfl ?_
    | refine awl_build rfl rfl rfl ?_
    | refine awd_build rfl rfl rfl ?_
    | refine aw_block ?_
    | refine aw_skip ?_
    | refine aw_exit ?_
    | refine aw_ret ?_
    | refine aw_cond_t rfl ?_
    | refine aw_cond_f rfl ?_
    | refine awl_skip rfl rfl ?_
    | refine awd_skip rfl rfl ?_)
  refine awd_d rfl rfl (cut_row0 (l := 0) (h := i) rfl rfl rfl ⟨.i64, rfl⟩ rfl rfl rfl (.inr rfl) (by omega) (by simp; omega)) ?_
  repeat (first
    | refine awl_p rfl rfl rfl ?_
    | refine awd_p rfl rfl rfl ?_
    | refine awl_nil ?_
    | refine awd_nil ?_
    | refine aw_seq ?_
    | refine aw_reg ?_
    | (refine aw_draw ?_ ?_; · kernel_rfl)
    | refine awl_load rfl rfl rfl ?_
    | refine awd_load rfl rfl rfl ?_
    | refine awd_loadp rfl rfl rfl ?_
    | refine awl_alloc rfl rfl rfl rfl ?_
    | refine awd_alloc rfl rfl rfl rfl ?_
    | refine awl_store rfl rfl ?_
    | refine awd_store rfl rfl ?_
    | refine awl_build rfl rfl rfl ?_
    | refine awd_build rfl rfl rfl ?_
    | refine aw_block ?_
    | refine aw_skip ?_
    | refine aw_exit ?_
    | refine aw_ret ?_
    | refine aw_cond_t rfl ?_
    | refine aw_cond_f rfl ?_
    | refine awl_skip rfl rfl ?_
    | refine awd_skip rfl rfl ?_)
  refine awd_d rfl rfl (cut_row0 (l := i + 1) (h := xs.length) rfl rfl ⟨.i64, rfl⟩ rfl rfl rfl rfl (.inr rfl) (by omega) (by simp)) ?_
  refine awd_d rfl rfl (append_row (k := xs.length - (i + 1)) rfl rfl rfl (SrcK.hd rfl (by omega) (by simp; omega) (show ElemsOk 2 _ by simpa using hel2)) rfl rfl rfl rfl rfl (by simp; omega)) ?_
  refine awd_p rfl rfl rfl ?_
  refine awd_nil ?_
  refine aw_re 0 rfl (congrArg (AVal.hd 0 2 0) (show i - 0 + (xs.length - (i + 1)) = xs.length - 1 by omega)) ?_
  refine aw_heap_re (H' := [.row 2 77 2 ((xs ++ sp).take i ++ ((xs ++ sp).drop (i + 1)).take (xs.length - (i + 1)) ++ (xs ++ sp).drop (i + (xs.length - (i + 1))))]) (by simp only [Nat.zero_add, Nat.sub_zero]; rfl) ?_
  have hXl : ((xs ++ sp).take i ++ ((xs ++ sp).drop (i + 1)).take (xs.length - (i + 1)) ++ (xs ++ sp).drop (i + (xs.length - (i + 1)))).length = xs.length + sp.length := by simp; omega
  repeat (first
    | refine awl_p rfl rfl rfl ?_
    | refine awd_p rfl rfl rfl ?_
    | refine awl_nil ?_
    | refine awd_nil ?_
    | refine aw_seq ?_
    | refine aw_reg ?_
    | (refine aw_draw ?_ ?_; · kernel_rfl)
    | refine awl_load rfl rfl rfl ?_
    | refine awd_load rfl rfl rfl ?_
    | refine awd_loadp rfl rfl rfl ?_
    | refine awl_alloc rfl rfl rfl rfl ?_
    | refine awd_alloc rfl rfl rfl rfl ?_
    | refine awl_store rfl rfl ?_
    | refine awd_store rfl rfl ?_
    | refine awl_build rfl rfl rfl ?_
    | refine awd_build rfl rfl rfl ?_
    | refine aw_block ?_
    | refine aw_skip ?_
    | refine aw_exit ?_
    | refine aw_ret ?_
    | refine aw_cond_t rfl ?_
    | refine aw_cond_f rfl ?_
    | refine awl_skip rfl rfl ?_
    | refine awd_skip rfl rfl ?_)
  refine awl_d rfl rfl (len_row rfl rfl rfl rfl) ?_
  repeat (first
    | refine awl_p rfl rfl rfl ?_
    | refine awd_p rfl rfl rfl ?_
    | refine awl_nil ?_
    | refine awd_nil ?_
    | refine aw_seq ?_
    | refine aw_reg ?_
    | (refine aw_draw ?_ ?_; · kernel_rfl)
    | refine awl_load rfl rfl rfl ?_
    | refine awd_load rfl rfl rfl ?_
    | refine awd_loadp rfl rfl rfl ?_
    | refine awl_alloc rfl rfl rfl rfl ?_
    | refine awd_alloc rfl rfl rfl rfl ?_
    | refine awl_store rfl rfl ?_
    | refine awd_store rfl rfl ?_
    | refine awl_build rfl rfl rfl ?_
    | refine awd_build rfl rfl rfl ?_
    | refine aw_block ?_
    | refine aw_skip ?_
    | refine aw_exit ?_
    | refine aw_ret ?_
    | refine aw_cond_t rfl ?_
    | refine aw_cond_f rfl ?_
    | refine awl_skip rfl rfl ?_
    | refine awd_skip rfl rfl ?_)
  refine awl_d rfl rfl (cut_row0 (l := xs.length - 1) (h := xs.length) rfl rfl ⟨.i64, rfl⟩ ⟨.i64, rfl⟩ rfl rfl rfl (.inr rfl) (by omega) (by rw [hXl]; omega)) ?_
  refine awl_dn (k := .m) rfl (clear_row rfl rfl rfl rfl rfl rfl (by omega)) ?_
  refine awl_nil ?_
  refine aw_shrink [0] rfl 0 rfl rfl ?_
  refine aw_publish [0] 4 rfl rfl 0 rfl rfl ?_
  repeat (first
    | refine awl_p rfl rfl rfl ?_
    | refine awd_p rfl rfl rfl ?_
    | refine awl_nil ?_
    | refine awd_nil ?_
    | refine aw_seq ?_
    | refine aw_reg ?_
    | (refine aw_draw ?_ ?_; · kernel_rfl)
    | refine awl_load rfl rfl rfl ?_
    | refine awd_load rfl rfl rfl ?_
    | refine awd_loadp rfl rfl rfl ?_
    | refine awl_alloc rfl rfl rfl rfl ?_
    | refine awd_alloc rfl rfl rfl rfl ?_
    | refine awl_store rfl rfl ?_
    | refine awd_store rfl rfl ?_
    | refine awl_build rfl rfl rfl ?_
    | refine awd_build rfl rfl rfl ?_
    | refine aw_block ?_
    | refine aw_skip ?_
    | refine aw_exit ?_
    | refine aw_ret ?_
    | refine aw_cond_t rfl ?_
    | refine aw_cond_f rfl ?_
    | refine awl_skip rfl rfl ?_
    | refine awd_skip rfl rfl ?_
    | refine bodyQ_ret [] true rfl rfl rfl ?_)
  refine one_ok ?_ rfl
  refine congrArg AVal.sl ?_
  have := del_list (sp := sp) (z := zeroA ty77) (show i < xs.length by omega)
  simp only [Nat.zero_add]
  rw [show xs.length - (xs.length - 1) = 1 by omega]
  refine Eq.trans ?_ (this.trans ?_)
  · rfl
  · rw [← hxs]; simp [delP]
end Go.AL
