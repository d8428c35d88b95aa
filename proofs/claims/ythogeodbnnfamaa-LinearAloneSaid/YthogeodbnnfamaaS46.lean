/-
  The search for an order of spans that are owned: nothing of them is changed. No conditions.
-/
import Derived.Test.YthogeodbnnfamaaS44
import Derived.Test.YthogeodbnnfamaaS38
import Derived.Test.YthogeodbnnfamaaL6
set_option linter.unusedVariables false
set_option linter.unusedSimpArgs false
set_option maxRecDepth 100000
namespace Go.AL
open Go Go.Proofs
attribute [local irreducible] J inB right may

theorem indexA_ok (l : List Span) (g : Nat) (hl : l.length ≤ 1000000) : ACalls Try.prog 71 [.arr 0 g, .fn (.func 62) [] []] [.arr g 65 10 (l.map encSp)] (one (.v (.int .i64 (match l.findIdx? badSp with | some i => (i : Int) | none => -1))) [.arr g 65 10 (l.map encSp)]) := by
  refine jcalls Try.func71 rfl (by kernel_rfl) Try.ntmps71 rfl rfl (fun w0 β0 ext hβ => ?_)
  repeat (first | refine js rfl ?_ | (refine jdraw ?_ ?_; · kernel_rfl) | refine jbu rfl rfl rfl rfl ?_ | refine jo rfl rfl (len_arr rfl rfl rfl rfl) rfl rfl ?_)
  refine jloop (ι := Nat) 1 (fun i => i ≤ l.length ∧ ∀ j, j < i → badSp (at' l (j : Int)) = false) [0, 1, 7, 8] (fun i => [.arr 0 g, .fn (.func 62) [] [], .v (.int .i64 l.length), .v (.int .i64 i)]) (fun _ => [.arr g 65 10 (l.map encSp)]) (fun i => l.length - i) 0 (Nat.le_of_eq hβ) ⟨by omega, by simp⟩ (by simp only [List.length_map]; rfl) rfl ?_
  rintro i ⟨hi, hv⟩
  repeat (first | refine js rfl ?_ | (refine jdraw ?_ ?_; · kernel_rfl) | refine jbu rfl rfl rfl rfl ?_)
  refine jc rfl rfl rfl (fun h => ?_) (fun h => ?_)
  · have h := of_decide_eq_true h
    have hi1 : i < l.length := by omega
    have w1 := idx_next hi1 (by omega)
    have hb := bad_ok (at' l (i : Int))
    repeat (first | refine js rfl ?_ | (refine jdraw ?_ ?_; · kernel_rfl) | refine jbu rfl rfl rfl rfl ?_)
    refine jo rfl rfl (index_own rfl rfl rfl rfl rfl rfl (by omega) (by simp; omega)) rfl rfl ?_
    refine jo rfl rfl (load_own rfl rfl (map_at hi1) rfl rfl rfl) rfl rfl ?_
    cases hbb : badSp (at' l (i : Int))
    · rw [hbb] at hb
      repeat (first | refine js rfl ?_ | (refine jdraw ?_ ?_; · kernel_rfl) | refine jbu rfl rfl rfl rfl ?_ | refine jv hb rfl rfl rfl rfl rfl ?_)
      exact jnext (i + 1) ⟨hi1, fun j hj => by
        rcases Nat.lt_or_ge j i with h4 | h4
        · exact hv j h4
        · have : j = i := by omega
          subst this; exact hbb⟩ (by omega) rfl rfl rfl (by rw [w1]) rfl
    · rw [hbb] at hb
      have e : l.findIdx? badSp = some i := by
        rw [List.findIdx?_eq_some_iff_getElem]
        refine ⟨hi1, by rw [← at_nat l i hi1]; exact hbb, fun j hj => ?_⟩
        have := hv j hj
        rw [at_nat l j (by omega)] at this
        simp [this]
      rw [e]
      repeat (first | refine js rfl ?_ | (refine jdraw ?_ ?_; · kernel_rfl) | refine jbu rfl rfl rfl rfl ?_ | refine jv hb rfl rfl rfl rfl rfl ?_)
      exact jr rfl rfl rfl rfl
  · have h := of_decide_eq_false h
    have hi2 : i = l.length := by omega
    subst hi2
    have e : l.findIdx? badSp = none := by
      rw [List.findIdx?_eq_none_iff]
      intro x hx
      obtain ⟨j, hj, rfl⟩ := List.getElem_of_mem hx
      have := hv j hj
      rwa [at_nat l j hj] at this
    rw [e]
    repeat (first | refine js rfl ?_ | (refine jdraw ?_ ?_; · kernel_rfl) | refine jbu rfl rfl rfl rfl ?_)
    exact jr rfl rfl rfl rfl
theorem containsA_ok (l : List Span) (g : Nat) (hl : l.length ≤ 1000000) : ACalls Try.prog 63 [.arr 0 g, .fn (.func 62) [] []] [.arr g 65 10 (l.map encSp)] (one (.v (.bool (l.any badSp))) [.arr g 65 10 (l.map encSp)]) := by
  have h := indexA_ok l g hl
  have e : l.any badSp = decide ((match l.findIdx? badSp with | some i => (i : Int) | none => -1) ≥ 0) := by
    cases hf : l.findIdx? badSp with
    | none =>
      rw [List.findIdx?_eq_none_iff] at hf
      simpa using hf
    | some i =>
      rw [List.findIdx?_eq_some_iff_getElem] at hf
      obtain ⟨h1, h2, _⟩ := hf
      have : l.any badSp = true := List.any_eq_true.2 ⟨_, List.getElem_mem h1, h2⟩
      rw [this]; simp
  rw [e]
  refine jcalls Try.func63 rfl (by kernel_rfl) Try.ntmps63 rfl rfl (fun w0 β0 ext hβ => ?_)
  repeat (first | refine js rfl ?_ | (refine jdraw ?_ ?_; · kernel_rfl) | refine jbu rfl rfl rfl rfl ?_)
  refine jb [0] h rfl rfl rfl ⟨rfl, rfl, rfl, rfl, rfl, rfl⟩ rfl rfl rfl rfl ?_
  repeat (first | refine js rfl ?_ | (refine jdraw ?_ ?_; · kernel_rfl) | refine jbu rfl rfl rfl rfl ?_)
  exact jr rfl rfl rfl rfl


theorem newLookA_ok (m : List Pair) (l : List Span) (g : Nat) (hm : right m = true) (hb : l.any badSp = false) (hl : l.length ≤ 8) :
    ACalls Try.prog 43 [.sl (m.map encP), .arr 0 g] [.arr g 65 10 (l.map encSp)] (one (.tup [.ptr 1 0, .v (.int .i64 0)]) [.arr g 65 10 (l.map encSp), .box 91 (lookC l.length (spanAt l) (aheadL l l.length) (mustM l l.length))]) := by
  have h1 := right_ok m (by have := right_len hm; omega)
  have h2 := containsA_ok l g (by omega)
  rw [hm] at h1
  rw [hb] at h2
  refine jcalls Try.func43 rfl (by kernel_rfl) Try.ntmps43 rfl rfl (fun w0 β0 ext hβ => ?_)
  repeat (first | refine js rfl ?_ | (refine jdraw ?_ ?_; · kernel_rfl) | refine jbu rfl rfl rfl rfl ?_ | refine jo rfl rfl (len_arr rfl rfl rfl rfl) rfl rfl ?_)
  refine jc rfl rfl rfl (fun h => ?_) (fun h => ?_)
  · have h := of_decide_eq_true h
    simp at h; omega
  repeat (first | refine js rfl ?_ | (refine jdraw ?_ ?_; · kernel_rfl) | refine jbu rfl rfl rfl rfl ?_ | refine jv h1 rfl rfl rfl rfl rfl ?_)
  refine jb [0] h2 rfl rfl rfl ⟨rfl, rfl, rfl, rfl, rfl, rfl⟩ rfl rfl rfl rfl ?_
  repeat (first | refine js rfl ?_ | (refine jdraw ?_ ?_; · kernel_rfl) | refine jbu rfl rfl rfl rfl ?_ | refine jo rfl rfl (len_arr rfl rfl rfl rfl) rfl rfl ?_)
  refine jo rfl rfl (slice_box 0 8 rfl rfl rfl rfl rfl rfl (by omega) (by omega) (by omega)) rfl rfl ?_
  repeat (first | refine js rfl ?_ | (refine jdraw ?_ ?_; · kernel_rfl) | refine jbu rfl rfl rfl rfl ?_)
  have hsrc : ∀ H, H[0]? = some (AObj.arr g 65 10 (l.map encSp)) → SrcK H 10 l.length (.arr 0 g) (l.map encSp) l.length := fun H h0 => by
    have := SrcK.of (H := H) (k := l.length) (.arr h0) (elems_map (s := 10) l fun _ => ⟨rfl, rfl⟩) (by simp)
    have e : (l.map encSp).take l.length = l.map encSp := by rw [List.take_of_length_le]; simp
    rw [e, List.length_map] at this
    exact this
  refine jo rfl rfl (copy_box (cs := lookC (l.map encSp).length (fun _ => default) (fun _ => 0) 0) rfl rfl rfl (hsrc _ rfl) rfl rfl rfl (by omega) (elems_map l fun _ => ⟨rfl, rfl⟩) (Nat.le_of_ble_eq_true rfl) rfl) rfl rfl ?_
  refine jheap [.arr g 65 10 (l.map encSp), .box 91 (lookC l.length (spanAt l) (fun _ => 0) 0)] (by rw [← look_copy l hl, List.length_map]; rfl) ?_
  repeat (first | refine js rfl ?_ | (refine jdraw ?_ ?_; · kernel_rfl) | refine jbu rfl rfl rfl rfl ?_ | refine jo rfl rfl (len_arr rfl rfl rfl rfl) rfl rfl ?_)
  refine jloop (ι := Nat) 2 (fun i => i ≤ l.length) [1, 7, 33, 34, 35] (fun i => [.arr 0 g, .ptr 1 0, .arr 0 g, .v (.int .i64 l.length), .v (.int .i64 i)]) (fun i => [.arr g 65 10 (l.map encSp), .box 91 (lookC l.length (spanAt l) (aheadL l i) (mustM l i))]) (fun i => l.length - i) 0 (by rw [hβ]; exact Nat.le_of_ble_eq_true rfl) (by omega) (by simp only [List.length_map]; rfl) rfl ?_
  intro i hi
  repeat (first | refine js rfl ?_ | (refine jdraw ?_ ?_; · kernel_rfl) | refine jbu rfl rfl rfl rfl ?_)
  refine jc rfl rfl rfl (fun h => ?_) (fun h => ?_)
  · have h := of_decide_eq_true h
    have hi1 : i < l.length := by omega
    have w1 := idx_next hi1 (by omega)
    have hmu : mustM l (i + 1) = if decide ((at' l (i : Int)).to ≥ 0) then mustM l i ||| (1#64 <<< i) else mustM l i := rfl
    repeat (first | refine js rfl ?_ | (refine jdraw ?_ ?_; · kernel_rfl) | refine jbu rfl rfl rfl rfl ?_)
    refine jo rfl rfl (index_own rfl rfl rfl rfl rfl rfl (by omega) (by simp; omega)) rfl rfl ?_
    refine jo rfl rfl (load_own rfl rfl (map_at hi1) rfl rfl rfl) rfl rfl ?_
    repeat (first | refine js rfl ?_ | (refine jdraw ?_ ?_; · kernel_rfl) | refine jbu rfl rfl rfl rfl ?_)
    refine jmid [1, 7, 8, 9, 33, 34, 35] [.arr 0 g, .ptr 1 0, .v (.int .i64 i), .ptr 2 0, .arr 0 g, .v (.int .i64 l.length), .v (.int .i64 i)]
      [.arr g 65 10 (l.map encSp), .box 91 (lookC l.length (spanAt l) (aheadL l i) (mustM l (i + 1))), .box 65 (spCells (at' l (i : Int)))] ?_ ?_
    · refine jc rfl rfl rfl (fun h2 => ?_) (fun h2 => ?_)
      · rw [hmu, if_pos h2]
        repeat (first | refine jo rfl rfl (u64_bit_op rfl rfl (by omega)) rfl rfl ?_ | refine jo rfl rfl (u64_or_op rfl rfl) rfl rfl ?_ | refine js rfl ?_ | (refine jdraw ?_ ?_; · kernel_rfl) | refine jbu rfl rfl rfl rfl ?_)
        exact jmeet rfl rfl
      · rw [hmu, if_neg (by rw [h2]; decide)]
        repeat (first | refine js rfl ?_ | (refine jdraw ?_ ?_; · kernel_rfl) | refine jbu rfl rfl rfl rfl ?_)
        exact jmeet rfl rfl
    repeat (first | refine js rfl ?_ | (refine jdraw ?_ ?_; · kernel_rfl) | refine jbu rfl rfl rfl rfl ?_ | refine jo rfl rfl (len_arr rfl rfl rfl rfl) rfl rfl ?_)
    refine jloop (ι := Nat) 3 (fun k => k ≤ l.length) [1, 7, 8, 9, 33, 34, 35, 52, 53, 54] (fun k => [.arr 0 g, .ptr 1 0, .v (.int .i64 i), .ptr 2 0, .arr 0 g, .v (.int .i64 l.length), .v (.int .i64 i), .arr 0 g, .v (.int .i64 l.length), .v (.int .i64 k)])
      (fun k => [.arr g 65 10 (l.map encSp), .box 91 (lookC l.length (spanAt l) (aheadK l i k) (mustM l (i + 1))), .box 65 (spCells (at' l (i : Int)))]) (fun k => l.length - k) 0 (by rw [hβ]; exact Nat.le_of_ble_eq_true rfl) (by omega) (by simp only [List.length_map]; rfl) ?_ ?_
    · rw [aheadK_zero]
    intro k hk
    repeat (first | refine js rfl ?_ | (refine jdraw ?_ ?_; · kernel_rfl) | refine jbu rfl rfl rfl rfl ?_)
    refine jc rfl rfl rfl (fun h => ?_) (fun h => ?_)
    · have h := of_decide_eq_true h
      have hk1 : k < l.length := by omega
      have w2 := idx_next hk1 (by omega)
      have hbf := before_ok (at' l (k : Int)) (at' l (i : Int))
      have hau : aheadM l i (k + 1) = if before (at' l (k : Int)) (at' l (i : Int)) then aheadM l i k ||| (1#64 <<< k) else aheadM l i k := rfl
      repeat (first | refine js rfl ?_ | (refine jdraw ?_ ?_; · kernel_rfl) | refine jbu rfl rfl rfl rfl ?_)
      refine jo rfl rfl (index_own rfl rfl rfl rfl rfl rfl (by omega) (by simp; omega)) rfl rfl ?_
      refine jo rfl rfl (load_own rfl rfl (map_at hk1) rfl rfl rfl) rfl rfl ?_
      cases hbb : before (at' l (k : Int)) (at' l (i : Int)) <;> rw [hbb] at hbf hau
      · repeat (first | refine js rfl ?_ | (refine jdraw ?_ ?_; · kernel_rfl) | refine jbu rfl rfl rfl rfl ?_ | refine jv hbf rfl rfl rfl rfl rfl ?_)
        refine jnext (k + 1) hk1 (by omega) rfl rfl rfl (by rw [w2]) ?_
        have e : aheadK l i (k + 1) = aheadK l i k := by unfold aheadK; rw [hau]; rfl
        rw [e]; rfl
      · repeat (first | refine js rfl ?_ | (refine jdraw ?_ ?_; · kernel_rfl) | refine jbu rfl rfl rfl rfl ?_ | refine jv hbf rfl rfl rfl rfl rfl ?_)
        refine jo rfl rfl (index_arr rfl rfl rfl rfl rfl (by omega) (by omega)) rfl rfl ?_
        refine jo rfl rfl (load_dsem rfl rfl rfl (look_ahead (n := l.length) (S := spanAt l) (A := aheadK l i k) (must := mustM l (i + 1)) (i := i) (by omega) (off1_eq i))) rfl rfl ?_
        refine jre 67 (u64A (aheadM l i k)) rfl rfl (by unfold aheadK; simp) ?_
        repeat (first | refine jo rfl rfl (u64_bit_op rfl rfl (by omega)) rfl rfl ?_ | refine jo rfl rfl (u64_or_op rfl rfl) rfl rfl ?_ | refine js rfl ?_ | (refine jdraw ?_ ?_; · kernel_rfl) | refine jbu rfl rfl rfl rfl ?_)
        refine jo rfl rfl (index_arr rfl rfl rfl rfl rfl (by omega) (by omega)) rfl rfl ?_
        refine jo rfl rfl (store_at (cs := lookC l.length (spanAt l) (aheadK l i k) (mustM l (i + 1))) rfl rfl rfl rfl rfl rfl ?_ (look_step (i := i) (by omega) (off1_eq i) (by rw [hau]; rfl)) rfl) rfl rfl ?_
        · have : 80 + 1 + (i : Int).toNat * 1 + 1 ≤ 90 := by simp; omega
          exact this
        repeat (first | refine js rfl ?_ | (refine jdraw ?_ ?_; · kernel_rfl) | refine jbu rfl rfl rfl rfl ?_)
        exact jnext (k + 1) hk1 (by omega) rfl rfl rfl (by rw [w2]) rfl
    · have h := of_decide_eq_false h
      have hk2 : k = l.length := by omega
      subst hk2
      repeat (first | refine js rfl ?_ | (refine jdraw ?_ ?_; · kernel_rfl) | refine jbu rfl rfl rfl rfl ?_)
      refine jnext (i + 1) hi1 (by omega) rfl rfl rfl (by rw [w1]) ?_
      rw [← aheadK_full]; rfl
  · have h := of_decide_eq_false h
    have hi2 : i = l.length := by omega
    subst hi2
    repeat (first | refine js rfl ?_ | (refine jdraw ?_ ?_; · kernel_rfl) | refine jbu rfl rfl rfl rfl ?_)
    exact jret [1] true rfl rfl rfl ⟨rfl, rfl⟩

def codeO : Option (List Int) → Int
  | some _ => 0
  | none => 8
theorem orderA_ok (m : List Pair) (l : List Span) (g : Nat) (hm : right m = true) (hb : l.any badSp = false) (hl : l.length ≤ 8) (r : Option (List Int)) (hr : orderR m l = r) :
    ACalls Try.prog 27 [.sl (m.map encP), .arr 0 g] [.arr g 65 10 (l.map encSp)] (one (.tup [.sl ((r.getD []).map encI), .v (.int .i64 (codeO r))]) [.arr g 65 10 (l.map encSp)]) := by
  have hnew := newLookA_ok m l g hm hb hl
  have hf := from_ok l hb hl (l.length + 1) m [] 0 1 hm rfl (by simp) (by simp) (fun i hi => by simp)
  have he : orderR m l = (srchG l (l.length + 1) m [] 1).1 := (srchG_eq l _ m [] 1).symm
  rw [he] at hr
  subst hr
  generalize srchG l (l.length + 1) m [] 1 = z at hf
  obtain ⟨r, q⟩ := z
  unfold fromH at hf
  cases r
  · refine jcalls Try.func27 rfl (by kernel_rfl) Try.ntmps27 rfl rfl (fun w0 β0 ext hβ => ?_)
    repeat (first | refine js rfl ?_ | (refine jdraw ?_ ?_; · kernel_rfl) | refine jbu rfl rfl rfl rfl ?_)
    refine jb [0] hnew rfl rfl rfl ⟨rfl, rfl, rfl, rfl, rfl, rfl⟩ rfl rfl rfl rfl ?_
    repeat (first | refine jadB 3 0 3 1 rfl rfl rfl rfl ?_ | refine js rfl ?_ | (refine jdraw ?_ ?_; · kernel_rfl) | refine jbu rfl rfl rfl rfl ?_)
    refine jb [2, 3, 5, 1, 4] hf rfl rfl rfl ⟨rfl, rfl, rfl, rfl, rfl, rfl⟩ rfl rfl rfl rfl ?_
    repeat (first | refine js rfl ?_ | (refine jdraw ?_ ?_; · kernel_rfl) | refine jbu rfl rfl rfl rfl ?_)
    exact jr rfl rfl rfl rfl
  · refine jcalls Try.func27 rfl (by kernel_rfl) Try.ntmps27 rfl rfl (fun w0 β0 ext hβ => ?_)
    repeat (first | refine js rfl ?_ | (refine jdraw ?_ ?_; · kernel_rfl) | refine jbu rfl rfl rfl rfl ?_)
    refine jb [0] hnew rfl rfl rfl ⟨rfl, rfl, rfl, rfl, rfl, rfl⟩ rfl rfl rfl rfl ?_
    repeat (first | refine jadB 3 0 3 1 rfl rfl rfl rfl ?_ | refine js rfl ?_ | (refine jdraw ?_ ?_; · kernel_rfl) | refine jbu rfl rfl rfl rfl ?_)
    refine jb [2, 3, 5, 1, 4] hf rfl rfl rfl ⟨rfl, rfl, rfl, rfl, rfl, rfl⟩ rfl rfl rfl rfl ?_
    repeat (first | refine jpub 4 rfl rfl rfl rfl ?_ | refine js rfl ?_ | (refine jdraw ?_ ?_; · kernel_rfl) | refine jbu rfl rfl rfl rfl ?_)
    exact jr rfl rfl rfl rfl
theorem lmapA_ok (m : List Pair) (l : List Span) (row : List Int) (g : Nat) (hm : right m = true) (hb : l.any badSp = false) (hl : l.length ≤ 8) (hr : row.length ≤ 1000) (hx : (mapS l m [] row).2 = true) :
    ACalls Try.prog 33 [.sl (m.map encP), .arr 0 g, .sl (row.map encI)] [.arr g 65 10 (l.map encSp)] (one (.tup [.sl ((mapS l m [] row).1.map encP), .v (.int .i64 0)]) [.arr g 65 10 (l.map encSp)]) := by
  have hnew := newLookA_ok m l g hm hb hl
  have hf := follow_ok m l row hm hb hl hr
  rw [hx] at hf
  generalize (mapS l m [] row).1 = x at hf
  refine jcalls Try.func33 rfl (by kernel_rfl) Try.ntmps33 rfl rfl (fun w0 β0 ext hβ => ?_)
  repeat (first | refine js rfl ?_ | (refine jdraw ?_ ?_; · kernel_rfl) | refine jbu rfl rfl rfl rfl ?_)
  refine jb [0] hnew rfl rfl rfl ⟨rfl, rfl, rfl, rfl, rfl, rfl⟩ rfl rfl rfl rfl ?_
  repeat (first | refine js rfl ?_ | (refine jdraw ?_ ?_; · kernel_rfl) | refine jbu rfl rfl rfl rfl ?_)
  refine jb [1] hf rfl rfl rfl ⟨rfl, rfl, rfl, rfl, rfl, rfl⟩ rfl rfl rfl rfl ?_
  repeat (first | refine js rfl ?_ | (refine jdraw ?_ ?_; · kernel_rfl) | refine jbu rfl rfl rfl rfl ?_)
  exact jr rfl rfl rfl rfl
end Go.AL
