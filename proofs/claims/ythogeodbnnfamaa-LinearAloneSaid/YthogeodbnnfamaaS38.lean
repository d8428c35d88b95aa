/-
  The laws LinearFinds and LinearChecks by contracts. No conditions.
-/
import Derived.Test.YthogeodbnnfamaaS37
set_option linter.unusedVariables false
set_option linter.unusedSimpArgs false
set_option maxRecDepth 100000
namespace Go.AL
open Go Go.Proofs
attribute [local irreducible] J inB right may

theorem search_len (l : List Span) : ∀ (f : Nat) (m : List Pair) (pre r : List Int), searchS l f m pre = some r → r.length ≤ pre.length + f
  | 0, _, _, _, h => by cases h
  | f + 1, m, pre, r, h => by
    unfold searchS at h
    split at h
    · injection h with h; subst h; omega
    · obtain ⟨j, hj, hr⟩ := List.exists_of_findSome?_eq_some h
      unfold stepS at hr
      split at hr
      · split at hr
        · have := search_len l f _ _ _ hr
          simp at this; omega
        · cases hr
      · cases hr
theorem mapS_right {l : List Span} (hb : l.any badSp = false) : ∀ (row : List Int) (m : List Pair) (pre : List Int), right m = true → right (mapS l m pre row).1 = true
  | [], m, pre, h => h
  | n :: row, m, pre, h => by
    rw [mapS_cons]
    split
    · rename_i hc
      split
      · obtain ⟨k, rfl⟩ : ∃ k : Nat, n = k := ⟨n.toNat, by omega⟩
        exact mapS_right hb row _ _ (next_right h (may_of hb (by omega)))
      · exact right_iff.2 ⟨by simp, by simp⟩
    · exact right_iff.2 ⟨by simp, by simp⟩

theorem finds_ok (M : List Pair) (L : List Span) (hM : M.length ≤ 9223372036854775807) (hL : L.length ≤ 9223372036854775807) :
    ACalls Try.prog 7 [.sl (M.map encP), .sl (L.map encSp)] [] (one (.v (.bool true)) []) := by
  have hfew := lfew_ok M hM
  have hm : (M.take 14).length ≤ 14 := by rw [List.length_take]; omega
  generalize M.take 14 = m at hfew hm
  have hcut := min_if encSp L 10
  have hl : (L.take 10).length ≤ 10 := by rw [List.length_take]; omega
  generalize hg : L.take 10 = l at hl
  have hord := order_ok m l (by omega) (by omega)
  have hrr := rright_ok m (by omega)
  have hsp := spans_ok l (by omega)
  by_cases h8 : l.length > 8
  · have e : orderA m l = ([], 2) := by unfold orderA errL; rw [if_pos h8]; rfl
    rw [e] at hord
    refine jcalls Try.func7 rfl (by kernel_rfl) Try.ntmps7 rfl rfl (fun w0 β0 ext hβ => ?_)
    repeat (first | refine js rfl ?_ | (refine jdraw ?_ ?_; · kernel_rfl) | refine jbu rfl rfl rfl rfl ?_ | refine jv hfew rfl rfl rfl rfl rfl ?_)
    refine jo rfl rfl (cut_take 10 rfl rfl rfl hcut rfl rfl rfl (fun _ => ⟨rfl, rfl⟩)) rfl rfl ?_
    rw [hg]
    repeat (first | refine js rfl ?_ | (refine jdraw ?_ ?_; · kernel_rfl) | refine jbu rfl rfl rfl rfl ?_ | refine jv hord rfl rfl rfl rfl rfl ?_)
    refine jc rfl rfl rfl (fun h => ?_) (fun h => absurd h (by simp; omega))
    repeat (first | refine js rfl ?_ | (refine jdraw ?_ ?_; · kernel_rfl) | refine jbu rfl rfl rfl rfl ?_ | refine jv lalive_ok rfl rfl rfl rfl rfl ?_)
    exact jr rfl rfl rfl rfl
  cases hr : right m <;> rw [hr] at hrr
  · have e : orderA m l = ([], 1) := by unfold orderA errL; rw [if_neg h8, hr]; rfl
    rw [e] at hord
    refine jcalls Try.func7 rfl (by kernel_rfl) Try.ntmps7 rfl rfl (fun w0 β0 ext hβ => ?_)
    repeat (first | refine js rfl ?_ | (refine jdraw ?_ ?_; · kernel_rfl) | refine jbu rfl rfl rfl rfl ?_ | refine jv hfew rfl rfl rfl rfl rfl ?_)
    refine jo rfl rfl (cut_take 10 rfl rfl rfl hcut rfl rfl rfl (fun _ => ⟨rfl, rfl⟩)) rfl rfl ?_
    rw [hg]
    repeat (first | refine js rfl ?_ | (refine jdraw ?_ ?_; · kernel_rfl) | refine jbu rfl rfl rfl rfl ?_ | refine jv hord rfl rfl rfl rfl rfl ?_)
    refine jc rfl rfl rfl (fun h => absurd h (by simp; omega)) (fun h => ?_)
    repeat (first | refine js rfl ?_ | (refine jdraw ?_ ?_; · kernel_rfl) | refine jbu rfl rfl rfl rfl ?_ | refine jv lalive_ok rfl rfl rfl rfl rfl ?_ | refine jv hrr rfl rfl rfl rfl rfl ?_)
    exact jr rfl rfl rfl rfl
  cases hb : l.any badSp <;> rw [hb] at hsp
  · have he : errL m l = 0 := by unfold errL; rw [if_neg h8, hr, hb]; rfl
    have hro := rorder_ok m l hr hb (by omega)
    have hlen := search_len l (l.length + 1) m []
    have e : orderA m l = (match orderR m l with | some r => (r, 0) | none => ([], 8)) := by unfold orderA; rw [if_pos he]; cases orderR m l <;> rfl
    unfold orderR at e
    rw [e] at hord
    generalize searchS l (l.length + 1) m [] = r at hord hro hlen
    cases r with
    | none =>
      refine jcalls Try.func7 rfl (by kernel_rfl) Try.ntmps7 rfl rfl (fun w0 β0 ext hβ => ?_)
      repeat (first | refine js rfl ?_ | (refine jdraw ?_ ?_; · kernel_rfl) | refine jbu rfl rfl rfl rfl ?_ | refine jv hfew rfl rfl rfl rfl rfl ?_)
      refine jo rfl rfl (cut_take 10 rfl rfl rfl hcut rfl rfl rfl (fun _ => ⟨rfl, rfl⟩)) rfl rfl ?_
      rw [hg]
      repeat (first | refine js rfl ?_ | (refine jdraw ?_ ?_; · kernel_rfl) | refine jbu rfl rfl rfl rfl ?_ | refine jv hord rfl rfl rfl rfl rfl ?_)
      refine jc rfl rfl rfl (fun h => absurd h (by simp; omega)) (fun h => ?_)
      repeat (first | refine js rfl ?_ | (refine jdraw ?_ ?_; · kernel_rfl) | refine jbu rfl rfl rfl rfl ?_ | refine jv lalive_ok rfl rfl rfl rfl rfl ?_ | refine jv hrr rfl rfl rfl rfl rfl ?_ | refine jv hsp rfl rfl rfl rfl rfl ?_ | refine jv hro rfl rfl rfl rfl rfl ?_)
      exact jr rfl rfl rfl rfl
    | some row =>
      have hi := ints_ok row (by have := hlen row rfl; simp at this; omega)
      refine jcalls Try.func7 rfl (by kernel_rfl) Try.ntmps7 rfl rfl (fun w0 β0 ext hβ => ?_)
      repeat (first | refine js rfl ?_ | (refine jdraw ?_ ?_; · kernel_rfl) | refine jbu rfl rfl rfl rfl ?_ | refine jv hfew rfl rfl rfl rfl rfl ?_)
      refine jo rfl rfl (cut_take 10 rfl rfl rfl hcut rfl rfl rfl (fun _ => ⟨rfl, rfl⟩)) rfl rfl ?_
      rw [hg]
      repeat (first | refine js rfl ?_ | (refine jdraw ?_ ?_; · kernel_rfl) | refine jbu rfl rfl rfl rfl ?_ | refine jv hord rfl rfl rfl rfl rfl ?_)
      refine jc rfl rfl rfl (fun h => absurd h (by simp; omega)) (fun h => ?_)
      repeat (first | refine js rfl ?_ | (refine jdraw ?_ ?_; · kernel_rfl) | refine jbu rfl rfl rfl rfl ?_ | refine jv lalive_ok rfl rfl rfl rfl rfl ?_ | refine jv hrr rfl rfl rfl rfl rfl ?_ | refine jv hsp rfl rfl rfl rfl rfl ?_ | refine jv hro rfl rfl rfl rfl rfl ?_ | refine jv hi rfl rfl rfl rfl rfl ?_)
      exact jr rfl rfl rfl rfl
  · have e : orderA m l = ([], 1) := by unfold orderA errL; rw [if_neg h8, hr, hb]; rfl
    rw [e] at hord
    refine jcalls Try.func7 rfl (by kernel_rfl) Try.ntmps7 rfl rfl (fun w0 β0 ext hβ => ?_)
    repeat (first | refine js rfl ?_ | (refine jdraw ?_ ?_; · kernel_rfl) | refine jbu rfl rfl rfl rfl ?_ | refine jv hfew rfl rfl rfl rfl rfl ?_)
    refine jo rfl rfl (cut_take 10 rfl rfl rfl hcut rfl rfl rfl (fun _ => ⟨rfl, rfl⟩)) rfl rfl ?_
    rw [hg]
    repeat (first | refine js rfl ?_ | (refine jdraw ?_ ?_; · kernel_rfl) | refine jbu rfl rfl rfl rfl ?_ | refine jv hord rfl rfl rfl rfl rfl ?_)
    refine jc rfl rfl rfl (fun h => absurd h (by simp; omega)) (fun h => ?_)
    repeat (first | refine js rfl ?_ | (refine jdraw ?_ ?_; · kernel_rfl) | refine jbu rfl rfl rfl rfl ?_ | refine jv lalive_ok rfl rfl rfl rfl rfl ?_ | refine jv hrr rfl rfl rfl rfl rfl ?_ | refine jv hsp rfl rfl rfl rfl rfl ?_)
    exact jr rfl rfl rfl rfl

theorem checks_ok (M : List Pair) (L : List Span) (R : List Int) (hM : M.length ≤ 9223372036854775807) (hL : L.length ≤ 9223372036854775807) (hR : R.length ≤ 9223372036854775807) :
    ACalls Try.prog 9 [.sl (M.map encP), .sl (L.map encSp), .sl (R.map encI)] [] (one (.v (.bool true)) []) := by
  have hfew := lfew_ok M hM
  have hm : (M.take 14).length ≤ 14 := by rw [List.length_take]; omega
  generalize M.take 14 = m at hfew hm
  have hcut := min_if encSp L 10
  have hl : (L.take 10).length ≤ 10 := by rw [List.length_take]; omega
  generalize hg : L.take 10 = l at hl
  have hcut2 := min_if encI R 12
  have hrow : (R.take 12).length ≤ 12 := by rw [List.length_take]; omega
  generalize hg2 : R.take 12 = row at hrow
  have hck := check_ok m l row (by omega) (by omega) (by omega)
  have hmp := lmap_ok m l row (by omega) (by omega) (by omega)
  have hrr := rright_ok m (by omega)
  have hsp := spans_ok l (by omega)
  by_cases h8 : l.length > 8
  · have e : errL m l = 2 := by unfold errL; rw [if_pos h8]
    rw [e] at hck hmp
    rw [if_neg (by simp), if_neg (by simp)] at hmp
    refine jcalls Try.func9 rfl (by kernel_rfl) Try.ntmps9 rfl rfl (fun w0 β0 ext hβ => ?_)
    repeat (first | refine js rfl ?_ | (refine jdraw ?_ ?_; · kernel_rfl) | refine jbu rfl rfl rfl rfl ?_ | refine jv hfew rfl rfl rfl rfl rfl ?_)
    refine jo rfl rfl (cut_take 10 rfl rfl rfl hcut rfl rfl rfl (fun _ => ⟨rfl, rfl⟩)) rfl rfl ?_
    rw [hg]
    repeat (first | refine js rfl ?_ | (refine jdraw ?_ ?_; · kernel_rfl) | refine jbu rfl rfl rfl rfl ?_)
    refine jo rfl rfl (cut_take 12 rfl rfl rfl hcut2 rfl rfl rfl (fun _ => ⟨rfl, rfl⟩)) rfl rfl ?_
    rw [hg2]
    repeat (first | refine js rfl ?_ | (refine jdraw ?_ ?_; · kernel_rfl) | refine jbu rfl rfl rfl rfl ?_ | refine jv hck rfl rfl rfl rfl rfl ?_ | refine jv hmp rfl rfl rfl rfl rfl ?_)
    refine jc rfl rfl rfl (fun h => ?_) (fun h => absurd h (by simp; omega))
    repeat (first | refine js rfl ?_ | (refine jdraw ?_ ?_; · kernel_rfl) | refine jbu rfl rfl rfl rfl ?_ | refine jv lalive_ok rfl rfl rfl rfl rfl ?_)
    exact jr rfl rfl rfl rfl
  cases hr : right m <;> rw [hr] at hrr
  · have e : errL m l = 1 := by unfold errL; rw [if_neg h8, hr]; rfl
    rw [e] at hck hmp
    rw [if_neg (by simp), if_neg (by simp)] at hmp
    refine jcalls Try.func9 rfl (by kernel_rfl) Try.ntmps9 rfl rfl (fun w0 β0 ext hβ => ?_)
    repeat (first | refine js rfl ?_ | (refine jdraw ?_ ?_; · kernel_rfl) | refine jbu rfl rfl rfl rfl ?_ | refine jv hfew rfl rfl rfl rfl rfl ?_)
    refine jo rfl rfl (cut_take 10 rfl rfl rfl hcut rfl rfl rfl (fun _ => ⟨rfl, rfl⟩)) rfl rfl ?_
    rw [hg]
    repeat (first | refine js rfl ?_ | (refine jdraw ?_ ?_; · kernel_rfl) | refine jbu rfl rfl rfl rfl ?_)
    refine jo rfl rfl (cut_take 12 rfl rfl rfl hcut2 rfl rfl rfl (fun _ => ⟨rfl, rfl⟩)) rfl rfl ?_
    rw [hg2]
    repeat (first | refine js rfl ?_ | (refine jdraw ?_ ?_; · kernel_rfl) | refine jbu rfl rfl rfl rfl ?_ | refine jv hck rfl rfl rfl rfl rfl ?_ | refine jv hmp rfl rfl rfl rfl rfl ?_)
    refine jc rfl rfl rfl (fun h => absurd h (by simp; omega)) (fun h => ?_)
    repeat (first | refine js rfl ?_ | (refine jdraw ?_ ?_; · kernel_rfl) | refine jbu rfl rfl rfl rfl ?_ | refine jv lalive_ok rfl rfl rfl rfl rfl ?_ | refine jv hrr rfl rfl rfl rfl rfl ?_)
    exact jr rfl rfl rfl rfl
  cases hb : l.any badSp <;> rw [hb] at hsp
  · have e : errL m l = 0 := by unfold errL; rw [if_neg h8, hr, hb]; rfl
    have hrm := rmap_ok m l row hr hb (by omega) (by omega)
    have hsm := same_ok (mapS l m [] row).1 (by have := right_len (mapS_right hb row m [] hr); omega)
    rw [e] at hck hmp
    generalize mapS l m [] row = z at hck hmp hrm hsm
    obtain ⟨x, b⟩ := z
    cases b
    all_goals
      simp only [true_and, if_true, Bool.false_eq_true, if_false, decide_true, Bool.true_and] at hck hmp hrm hsm
      refine jcalls Try.func9 rfl (by kernel_rfl) Try.ntmps9 rfl rfl (fun w0 β0 ext hβ => ?_)
      repeat (first | refine js rfl ?_ | (refine jdraw ?_ ?_; · kernel_rfl) | refine jbu rfl rfl rfl rfl ?_ | refine jv hfew rfl rfl rfl rfl rfl ?_)
      refine jo rfl rfl (cut_take 10 rfl rfl rfl hcut rfl rfl rfl (fun _ => ⟨rfl, rfl⟩)) rfl rfl ?_
      rw [hg]
      repeat (first | refine js rfl ?_ | (refine jdraw ?_ ?_; · kernel_rfl) | refine jbu rfl rfl rfl rfl ?_)
      refine jo rfl rfl (cut_take 12 rfl rfl rfl hcut2 rfl rfl rfl (fun _ => ⟨rfl, rfl⟩)) rfl rfl ?_
      rw [hg2]
      repeat (first | refine js rfl ?_ | (refine jdraw ?_ ?_; · kernel_rfl) | refine jbu rfl rfl rfl rfl ?_ | refine jv hck rfl rfl rfl rfl rfl ?_ | refine jv hmp rfl rfl rfl rfl rfl ?_)
      refine jc rfl rfl rfl (fun h => absurd h (by simp; omega)) (fun h => ?_)
      repeat (first | refine js rfl ?_ | (refine jdraw ?_ ?_; · kernel_rfl) | refine jbu rfl rfl rfl rfl ?_ | refine jv lalive_ok rfl rfl rfl rfl rfl ?_ | refine jv hrr rfl rfl rfl rfl rfl ?_ | refine jv hsp rfl rfl rfl rfl rfl ?_ | refine jv hrm rfl rfl rfl rfl rfl ?_ | refine jv hsm rfl rfl rfl rfl rfl ?_)
      exact jr rfl rfl rfl rfl
  · have e : errL m l = 1 := by unfold errL; rw [if_neg h8, hr, hb]; rfl
    rw [e] at hck hmp
    rw [if_neg (by simp), if_neg (by simp)] at hmp
    refine jcalls Try.func9 rfl (by kernel_rfl) Try.ntmps9 rfl rfl (fun w0 β0 ext hβ => ?_)
    repeat (first | refine js rfl ?_ | (refine jdraw ?_ ?_; · kernel_rfl) | refine jbu rfl rfl rfl rfl ?_ | refine jv hfew rfl rfl rfl rfl rfl ?_)
    refine jo rfl rfl (cut_take 10 rfl rfl rfl hcut rfl rfl rfl (fun _ => ⟨rfl, rfl⟩)) rfl rfl ?_
    rw [hg]
    repeat (first | refine js rfl ?_ | (refine jdraw ?_ ?_; · kernel_rfl) | refine jbu rfl rfl rfl rfl ?_)
    refine jo rfl rfl (cut_take 12 rfl rfl rfl hcut2 rfl rfl rfl (fun _ => ⟨rfl, rfl⟩)) rfl rfl ?_
    rw [hg2]
    repeat (first | refine js rfl ?_ | (refine jdraw ?_ ?_; · kernel_rfl) | refine jbu rfl rfl rfl rfl ?_ | refine jv hck rfl rfl rfl rfl rfl ?_ | refine jv hmp rfl rfl rfl rfl rfl ?_)
    refine jc rfl rfl rfl (fun h => absurd h (by simp; omega)) (fun h => ?_)
    repeat (first | refine js rfl ?_ | (refine jdraw ?_ ?_; · kernel_rfl) | refine jbu rfl rfl rfl rfl ?_ | refine jv lalive_ok rfl rfl rfl rfl rfl ?_ | refine jv hrr rfl rfl rfl rfl rfl ?_ | refine jv hsp rfl rfl rfl rfl rfl ?_)
    exact jr rfl rfl rfl rfl
end Go.AL
