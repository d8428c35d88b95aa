/-
  The first order; the law's own words. No conditions.
-/
import Derived.Test.YthogeodbnnfamaaS36
set_option linter.unusedVariables false
set_option linter.unusedSimpArgs false
set_option maxRecDepth 100000
namespace Go.AL
open Go Go.Proofs

def orderR (m : List Pair) (l : List Span) : Option (List Int) := searchS l (l.length + 1) m []
def orderA (m : List Pair) (l : List Span) : List Int × Int := if errL m l = 0 then (match orderR m l with | some r => (r, 0) | none => ([], 8)) else ([], errL m l)
theorem alive_order : orderA [] [⟨0, 0, ⟨0, 1, 0, 0⟩, ⟨0, 5⟩, 0, 3⟩, ⟨1, 0, ⟨1, 1, 5, 0⟩, ⟨0, 0⟩, 1, 2⟩] = ([1, 0], 0) := by rfl
attribute [local irreducible] J inB right may

theorem order_ok (m : List Pair) (l : List Span) (hm : m.length ≤ 1000000) (hl : l.length ≤ 1000000) :
    ACalls Try.prog 27 [.sl (m.map encP), .sl (l.map encSp)] [] (one (.tup [.sl ((orderA m l).1.map encI), .v (.int .i64 (orderA m l).2)]) []) := by
  unfold orderA
  by_cases h0 : errL m l = 0
  · have h1 : l.length ≤ 8 ∧ right m = true ∧ l.any badSp = false := by unfold errL at h0; grind
    obtain ⟨h1, h2, h3⟩ := h1
    have hnew := newLook_ok m l h2 h3 h1
    have hf := from_ok l h3 h1 (l.length + 1) m [] 0 1 h2 rfl (by simp) (by simp) (fun i hi => by simp)
    have he : orderR m l = (srchG l (l.length + 1) m [] 1).1 := (srchG_eq l _ m [] 1).symm
    rw [if_pos h0, he]
    generalize srchG l (l.length + 1) m [] 1 = z at hf
    obtain ⟨r, g⟩ := z
    unfold fromH at hf
    cases r
    · refine jcalls Try.func27 rfl (by kernel_rfl) Try.ntmps27 rfl rfl (fun w0 β0 ext hβ => ?_)
      repeat (first | refine js rfl ?_ | (refine jdraw ?_ ?_; · kernel_rfl) | refine jbu rfl rfl rfl rfl ?_)
      refine jb [] hnew rfl rfl rfl ⟨rfl, rfl, rfl, rfl, rfl, rfl⟩ rfl rfl rfl rfl ?_
      repeat (first | refine jadB 2 0 3 1 rfl rfl rfl rfl ?_ | refine js rfl ?_ | (refine jdraw ?_ ?_; · kernel_rfl) | refine jbu rfl rfl rfl rfl ?_)
      refine jb [1, 2, 4, 0, 3] hf rfl rfl rfl ⟨rfl, rfl, rfl, rfl, rfl, rfl⟩ rfl rfl rfl rfl ?_
      repeat (first | refine js rfl ?_ | (refine jdraw ?_ ?_; · kernel_rfl) | refine jbu rfl rfl rfl rfl ?_)
      exact jr rfl rfl rfl rfl
    · refine jcalls Try.func27 rfl (by kernel_rfl) Try.ntmps27 rfl rfl (fun w0 β0 ext hβ => ?_)
      repeat (first | refine js rfl ?_ | (refine jdraw ?_ ?_; · kernel_rfl) | refine jbu rfl rfl rfl rfl ?_)
      refine jb [] hnew rfl rfl rfl ⟨rfl, rfl, rfl, rfl, rfl, rfl⟩ rfl rfl rfl rfl ?_
      repeat (first | refine jadB 2 0 3 1 rfl rfl rfl rfl ?_ | refine js rfl ?_ | (refine jdraw ?_ ?_; · kernel_rfl) | refine jbu rfl rfl rfl rfl ?_)
      refine jb [1, 2, 4, 0, 3] hf rfl rfl rfl ⟨rfl, rfl, rfl, rfl, rfl, rfl⟩ rfl rfl rfl rfl ?_
      repeat (first | refine jpub 4 rfl rfl rfl rfl ?_ | refine js rfl ?_ | (refine jdraw ?_ ?_; · kernel_rfl) | refine jbu rfl rfl rfl rfl ?_)
      exact jr rfl rfl rfl rfl
  · have hnew := newLook_bad m l hm hl (errL m l) rfl h0
    rw [if_neg h0]
    generalize errL m l = e at h0 hnew
    refine jcalls Try.func27 rfl (by kernel_rfl) Try.ntmps27 rfl rfl (fun w0 β0 ext hβ => ?_)
    repeat (first | refine js rfl ?_ | (refine jdraw ?_ ?_; · kernel_rfl) | refine jbu rfl rfl rfl rfl ?_ | refine jv hnew rfl rfl rfl rfl rfl ?_)
    refine jc rfl rfl rfl (fun h => ?_) (fun h => absurd h (by simpa using h0))
    repeat (first | refine js rfl ?_ | (refine jdraw ?_ ?_; · kernel_rfl) | refine jbu rfl rfl rfl rfl ?_)
    exact jr rfl rfl rfl rfl
theorem lfew_ok (m : List Pair) (hm : m.length ≤ 9223372036854775807) : ACalls Try.prog 26 [.sl (m.map encP)] [] (one (.sl ((m.take 14).map encP)) []) := by
  have hcut := min_if encP m 14
  refine jcalls Try.func26 rfl (by kernel_rfl) Try.ntmps26 rfl rfl (fun w0 β0 ext hβ => ?_)
  repeat (first | refine js rfl ?_ | (refine jdraw ?_ ?_; · kernel_rfl) | refine jbu rfl rfl rfl rfl ?_)
  refine jo rfl rfl (cut_take 14 rfl rfl rfl hcut rfl rfl rfl (fun _ => ⟨rfl, rfl⟩)) rfl rfl ?_
  repeat (first | refine js rfl ?_ | (refine jdraw ?_ ?_; · kernel_rfl) | refine jbu rfl rfl rfl rfl ?_)
  exact jr rfl rfl rfl rfl
theorem lalive_ok : ACalls Try.prog 28 [] [] (one (.v (.bool true)) []) := by
  have h := order_ok [] [⟨0, 0, ⟨0, 1, 0, 0⟩, ⟨0, 5⟩, 0, 3⟩, ⟨1, 0, ⟨1, 1, 5, 0⟩, ⟨0, 0⟩, 1, 2⟩] (by decide) (by decide)
  rw [alive_order] at h
  refine jcalls Try.func28 rfl (by kernel_rfl) Try.ntmps28 rfl rfl (fun w0 β0 ext hβ => ?_)
  repeat (first | refine js rfl ?_ | (refine jdraw ?_ ?_; · kernel_rfl) | refine jbu rfl rfl rfl rfl ?_ | refine jw h rfl rfl rfl rfl rfl rfl ?_)
  refine jo rfl rfl (index_at rfl rfl rfl rfl rfl rfl rfl rfl (by decide) (by decide)) rfl rfl ?_
  repeat (first | refine js rfl ?_ | (refine jdraw ?_ ?_; · kernel_rfl) | refine jbu rfl rfl rfl rfl ?_)
  refine jo rfl rfl (index_at rfl rfl rfl rfl rfl rfl rfl rfl (by decide) (by decide)) rfl rfl ?_
  repeat (first | refine js rfl ?_ | (refine jdraw ?_ ?_; · kernel_rfl) | refine jbu rfl rfl rfl rfl ?_)
  exact jr rfl rfl rfl rfl
end Go.AL
