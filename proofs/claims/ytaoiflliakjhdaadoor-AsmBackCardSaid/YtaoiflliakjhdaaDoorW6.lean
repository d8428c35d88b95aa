/-
  asm.Right, the rest, and the law's cut of code. No conditions.
-/
import Derived.Test.YtaoiflliakjhdaaDoorW5
set_option linter.unusedVariables false
set_option linter.unusedSimpArgs false
set_option maxRecDepth 100000
namespace Go.AL
open Go Go.Proofs
attribute [local irreducible] J

def mH2 (l : List Ins) : List AObj := [.box 60 opsC, .box 23 [.sl (l.map encIns)], .box 77 [.fn (.func 39) [] [.ptr 0 0, .ptr 1 0]]]
theorem may2_ok (l : List Ins) (i : Ins) (hl : l.length ≤ 1000000) : ACalls Tryd.prog 42 [encIns i, .ptr 2 0] (mH2 l) (one (bv (!mayI l.length i)) (mH2 l)) := by
  obtain ⟨op, a, b, c⟩ := i
  have h1 := may1_ok l op a b c hl
  unfold mH at h1
  unfold mH2 encIns
  simp only
  generalize mayI l.length ⟨op, a, b, c⟩ = r at *
  refine jcalls Tryd.func42 rfl (by kernel_rfl) Tryd.ntmps42 rfl rfl (fun w0 β0 ext hβ => ?_)
  repeat (first | refine js rfl ?_ | (refine jdraw ?_ ?_; · kernel_rfl) | refine jbu rfl rfl rfl rfl ?_)
  refine jb [0,1] h1 rfl rfl rfl ⟨rfl, rfl, rfl, rfl, rfl, rfl⟩ rfl rfl rfl rfl ?_
  cases r
  all_goals (
    repeat (first | refine js rfl ?_ | (refine jdraw ?_ ?_; · kernel_rfl) | refine jbu rfl rfl rfl rfl ?_)
  )
  all_goals exact jr rfl rfl rfl rfl
def fidx (n : Nat) (l : List Ins) : Int := match l.findIdx? (fun i => !mayI n i) with | some i => i | none => -1
theorem findex_ok (l : List Ins) (hl : l.length ≤ 1000000) : ACalls Tryd.prog 64 [.sl (l.map encIns), .fn (.func 42) [] [.ptr 2 0]] (mH2 l) (one (iv (fidx l.length l)) (mH2 l)) := by
  unfold mH2
  refine jcalls Tryd.func64 rfl (by kernel_rfl) Tryd.ntmps64 rfl rfl (fun w0 β0 ext hβ => ?_)
  repeat (first | refine js rfl ?_ | (refine jdraw ?_ ?_; · kernel_rfl) | refine jbu rfl rfl rfl rfl ?_)
  refine jloopI (fun k : Nat => k ≤ l.length ∧ ∀ q, q < k → mayI l.length (at' l (q : Int)) = true) [0, 1, 8, 7] (fun k => [.sl (l.map encIns), .fn (.func 42) [] [.ptr 2 0], .v (.int .i64 (k : Int)), .v (.int .i64 ((l.map encIns).length : Int))])
    (fun _ => [.box 60 opsC, .box 23 [.sl (l.map encIns)], .box 77 [.fn (.func 39) [] [.ptr 0 0, .ptr 1 0]]]) (fun k => l.length - k) 0 ⟨Nat.zero_le _, fun q h => absurd h (by omega)⟩ rfl rfl (fun k hk => ?_)
  obtain ⟨hk, hok⟩ := hk
  repeat (first | refine js rfl ?_ | (refine jdraw ?_ ?_; · kernel_rfl) | refine jbu rfl rfl rfl rfl ?_)
  refine jc rfl rfl rfl (fun h => ?_) (fun h => ?_)
  · have h := of_decide_eq_true h
    rw [List.length_map] at h
    have hk2 : k < l.length := by omega
    have hc := may2_ok l (at' l (k : Int)) hl
    unfold mH2 at hc
    repeat (first | refine js rfl ?_ | (refine jdraw ?_ ?_; · kernel_rfl) | refine jbu rfl rfl rfl rfl ?_ | refine jo rfl rfl (index_at rfl rfl rfl rfl rfl rfl rfl rfl (Int.natCast_nonneg k) h) rfl rfl ?_)
    refine jb [0,1,2] hc rfl rfl rfl ⟨rfl, rfl, rfl, rfl, rfl, rfl⟩ rfl rfl rfl rfl ?_
    cases hb : mayI l.length (at' l (k : Int)) with
    | false =>
      repeat (first | refine js rfl ?_ | (refine jdraw ?_ ?_; · kernel_rfl) | refine jbu rfl rfl rfl rfl ?_)
      have : fidx l.length l = (k : Int) := by
        unfold fidx
        rw [at_nat l k hk2] at hb
        rw [List.findIdx?_eq_some_iff_getElem.2 ⟨hk2, by rw [hb]; rfl, fun j hj => by
          have e2 := hok j hj
          rw [at_nat l j (by omega)] at e2
          simp [e2]⟩]
      rw [this]
      exact jr rfl rfl rfl rfl
    | true =>
      repeat (first | refine js rfl ?_ | (refine jdraw ?_ ?_; · kernel_rfl) | refine jbu rfl rfl rfl rfl ?_)
      refine jnextI (k + 1) ⟨by omega, fun q hq => ?_⟩ ?_ rfl (by omega)
      · by_cases e : q = k
        · subst e; exact hb
        · exact hok q (by omega)
      · show some _ = some _
        rw [idx_next hk2 (by omega)]
  · have h := of_decide_eq_false h
    rw [List.length_map] at h
    repeat (first | refine js rfl ?_ | (refine jdraw ?_ ?_; · kernel_rfl) | refine jbu rfl rfl rfl rfl ?_)
    have : fidx l.length l = -1 := by
      unfold fidx
      rw [List.findIdx?_eq_none_iff.2 fun p hp => ?_]
      obtain ⟨i, hi, rfl⟩ := List.getElem_of_mem hp
      have e2 := hok i (by omega)
      rw [at_nat l i hi] at e2
      simp [e2]
    rw [this]
    exact jr rfl rfl rfl rfl
theorem containsI_ok (l : List Ins) (hl : l.length ≤ 1000000) : ACalls Tryd.prog 41 [.sl (l.map encIns), .fn (.func 42) [] [.ptr 2 0]] (mH2 l) (one (bv (!l.all (mayI l.length))) (mH2 l)) := by
  have h1 := findex_ok l hl
  have h2 : decide (fidx l.length l ≥ 0) = !l.all (mayI l.length) := by
    unfold fidx
    cases hf : l.findIdx? (fun i => !mayI l.length i) with
    | some i =>
      obtain ⟨hi, h3, _⟩ := List.findIdx?_eq_some_iff_getElem.1 hf
      have : l.all (mayI l.length) = false := by
        rw [List.all_eq_false]
        exact ⟨_, List.getElem_mem hi, by simpa using h3⟩
      rw [this]; simp
    | none =>
      rw [List.findIdx?_eq_none_iff] at hf
      have : l.all (mayI l.length) = true := by
        rw [List.all_eq_true]
        intro x hx
        simpa using hf x hx
      rw [this]; rfl
  unfold mH2 at *
  refine jcalls Tryd.func41 rfl (by kernel_rfl) Tryd.ntmps41 rfl rfl (fun w0 β0 ext hβ => ?_)
  repeat (first | refine js rfl ?_ | (refine jdraw ?_ ?_; · kernel_rfl) | refine jbu rfl rfl rfl rfl ?_)
  refine jb [0,1,2] h1 rfl rfl rfl ⟨rfl, rfl, rfl, rfl, rfl, rfl⟩ rfl rfl rfl rfl ?_
  repeat (first | refine js rfl ?_ | (refine jdraw ?_ ?_; · kernel_rfl) | refine jbu rfl rfl rfl rfl ?_)
  rw [h2]
  exact jr rfl rfl rfl rfl
theorem right_ok (l : List Ins) (hl : l.length ≤ 1000000) : ACalls Tryd.prog 17 [encIs l] [] (one (bv (rightC l)) []) := by
  have h1 := containsI_ok l hl
  have hop := operations_ok
  unfold rightC
  unfold mH2 at h1
  unfold encIs
  have hd : decide (((l.map encIns).length : Int) ≤ 1000) = decide (l.length ≤ 1000) := by
    rw [List.length_map]
    by_cases h : l.length ≤ 1000
    · rw [decide_eq_true h, decide_eq_true (by omega)]
    · rw [decide_eq_false h, decide_eq_false (by omega)]
  cases hb : decide (l.length ≤ 1000) with
  | false =>
    rw [hb] at hd
    refine jcalls Tryd.func17 rfl (by kernel_rfl) Tryd.ntmps17 rfl rfl (fun w0 β0 ext hβ => ?_)
    repeat (first | refine js rfl ?_ | (refine jdraw ?_ ?_; · kernel_rfl) | refine jbu rfl rfl rfl rfl ?_ | refine jv hop rfl rfl rfl rfl rfl ?_)
    rw [hd]
    repeat (first | refine js rfl ?_ | (refine jdraw ?_ ?_; · kernel_rfl) | refine jbu rfl rfl rfl rfl ?_)
    exact jr rfl rfl rfl rfl
  | true =>
    rw [hb] at hd
    refine jcalls Tryd.func17 rfl (by kernel_rfl) Tryd.ntmps17 rfl rfl (fun w0 β0 ext hβ => ?_)
    repeat (first | refine js rfl ?_ | (refine jdraw ?_ ?_; · kernel_rfl) | refine jbu rfl rfl rfl rfl ?_ | refine jv hop rfl rfl rfl rfl rfl ?_)
    rw [hd]
    repeat (first | refine js rfl ?_ | (refine jdraw ?_ ?_; · kernel_rfl) | refine jbu rfl rfl rfl rfl ?_)
    refine jb [1,0,2] h1 rfl rfl rfl ⟨rfl, rfl, rfl, rfl, rfl, rfl⟩ rfl rfl rfl rfl ?_
    cases l.all (mayI l.length)
    all_goals (
      repeat (first | refine js rfl ?_ | (refine jdraw ?_ ?_; · kernel_rfl) | refine jbu rfl rfl rfl rfl ?_)
    )
    all_goals exact jr rfl rfl rfl rfl
end Go.AL
