/-
  How an operation is found. No conditions.
-/
import Derived.Test.YtaoiflliakjhdaaDoorU7
set_option linter.unusedVariables false
set_option linter.unusedSimpArgs false
set_option maxRecDepth 100000
namespace Go.AL
open Go Go.Proofs
attribute [local irreducible] J

theorem isOp_ok (a k w : Bs) (r : List Bs) : ACalls Tryd.prog 60 [.agg [sv a, sv k], .ptr 0 0] [.box 51 [.slf ((w :: r).map sv)]] (one (bv (decide (a = w))) [.box 51 [.slf ((w :: r).map sv)]]) := by
  have key := str_eq a w
  have hlt : (0 : Int) < ((w :: r).length : Int) := by rw [List.length_cons]; omega
  refine jcalls Tryd.func60 rfl (by kernel_rfl) Tryd.ntmps60 rfl rfl (fun w0 β0 ext hβ => ?_)
  repeat (first | refine js rfl ?_ | (refine jdraw ?_ ?_; · kernel_rfl) | refine jbu rfl rfl rfl rfl ?_ | refine jo rfl rfl (index_at rfl rfl rfl rfl rfl rfl rfl rfl (by decide) hlt) rfl rfl ?_)
  exact jret [] false rfl rfl rfl ⟨congrArg (fun b => ARes.ret (AVal.v (.bool b))) key, rfl⟩

theorem ops_at : ∀ (i : Nat), i < 27 → takeA ty59 opsC (0 + i * ty59.size) = some (.agg [sv (at' opsT (i : Int)).1, sv (at' opsT (i : Int)).2])
  | 0, _ => rfl
  | 1, _ => rfl
  | 2, _ => rfl
  | 3, _ => rfl
  | 4, _ => rfl
  | 5, _ => rfl
  | 6, _ => rfl
  | 7, _ => rfl
  | 8, _ => rfl
  | 9, _ => rfl
  | 10, _ => rfl
  | 11, _ => rfl
  | 12, _ => rfl
  | 13, _ => rfl
  | 14, _ => rfl
  | 15, _ => rfl
  | 16, _ => rfl
  | 17, _ => rfl
  | 18, _ => rfl
  | 19, _ => rfl
  | 20, _ => rfl
  | 21, _ => rfl
  | 22, _ => rfl
  | 23, _ => rfl
  | 24, _ => rfl
  | 25, _ => rfl
  | 26, _ => rfl
  | n + 27, h => absurd h (by omega)

def findOp (w : Bs) : Int := match opsT.findIdx? (fun p => decide (p.1 = w)) with | some i => i | none => -1
theorem indexOp_ok (w : Bs) (r : List Bs) : ACalls Tryd.prog 59 [.bs 0 0 27 27, .fn (.func 60) [] [.ptr 1 0]] [.box 60 opsC, .box 51 [.slf ((w :: r).map sv)]]
    (one (iv (findOp w)) [.box 60 opsC, .box 51 [.slf ((w :: r).map sv)]]) := by
  refine jcalls Tryd.func59 rfl (by kernel_rfl) Tryd.ntmps59 rfl rfl (fun w0 β0 ext hβ => ?_)
  repeat (first | refine js rfl ?_ | (refine jdraw ?_ ?_; · kernel_rfl) | refine jbu rfl rfl rfl rfl ?_ | refine jo rfl rfl (len_bs rfl rfl rfl) rfl rfl ?_)
  refine jloopI (fun k : Nat => k ≤ 27 ∧ ∀ i, i < k → (at' opsT (i : Int)).1 ≠ w) [0, 1, 8, 7] (fun k => [.bs 0 0 27 27, .fn (.func 60) [] [.ptr 1 0], .v (.int .i64 (k : Int)), .v (.int .i64 ((27 : Nat) : Int))]) (fun _ => [.box 60 opsC, .box 51 [.slf ((w :: r).map sv)]]) (fun k => 27 - k) 0 ⟨Nat.zero_le _, fun i h => absurd h (by omega)⟩ rfl rfl (fun k hk => ?_)
  obtain ⟨hk, hno⟩ := hk
  repeat (first | refine js rfl ?_ | (refine jdraw ?_ ?_; · kernel_rfl) | refine jbu rfl rfl rfl rfl ?_)
  refine jc rfl rfl rfl (fun h => ?_) (fun h => ?_)
  · have h := of_decide_eq_true h
    have hk2 : k < 27 := by omega
    have hat := ops_at k hk2
    have hc := isOp_ok (at' opsT (k : Int)).1 (at' opsT (k : Int)).2 w r
    repeat (first | refine js rfl ?_ | (refine jdraw ?_ ?_; · kernel_rfl) | refine jbu rfl rfl rfl rfl ?_ | refine jo rfl rfl (index_bs rfl rfl rfl rfl rfl (by omega) (by omega)) rfl rfl ?_ | refine jo rfl rfl (load_dsem rfl rfl rfl hat) rfl rfl ?_)
    refine jb [1] hc rfl rfl rfl ⟨rfl, rfl, rfl, rfl, rfl, rfl⟩ rfl rfl rfl rfl ?_
    generalize hb : decide ((at' opsT (k : Int)).1 = w) = b at *
    repeat (first | refine js rfl ?_ | (refine jdraw ?_ ?_; · kernel_rfl) | refine jbu rfl rfl rfl rfl ?_)
    refine jc rfl rfl rfl (fun h1 => ?_) (fun h1 => ?_)
    · subst h1
      repeat (first | refine js rfl ?_ | (refine jdraw ?_ ?_; · kernel_rfl) | refine jbu rfl rfl rfl rfl ?_)
      refine jret [] false rfl rfl rfl ⟨?_, rfl⟩
      have : findOp w = (k : Int) := by
        unfold findOp
        have hkl : k < opsT.length := hk2
        have e := at_nat opsT k hkl
        rw [e] at hb
        rw [List.findIdx?_eq_some_iff_getElem.2 ⟨hkl, hb, fun j hj => by
          have hjl : j < opsT.length := by show j < 27; omega
          have e2 := hno j hj
          rw [at_nat opsT j hjl] at e2
          simpa using e2⟩]
      rw [this]; rfl
    · subst h1
      repeat (first | refine js rfl ?_ | (refine jdraw ?_ ?_; · kernel_rfl) | refine jbu rfl rfl rfl rfl ?_)
      refine jnextI (k + 1) ⟨by omega, fun i hi => ?_⟩ ?_ rfl (by omega)
      · by_cases hik : i = k
        · subst hik; exact of_decide_eq_false hb
        · exact hno i (by omega)
      · show some _ = some _
        rw [idx_next hk2 (by omega)]
  · have h := of_decide_eq_false h
    repeat (first | refine js rfl ?_ | (refine jdraw ?_ ?_; · kernel_rfl) | refine jbu rfl rfl rfl rfl ?_)
    refine jret [] false rfl rfl rfl ⟨?_, rfl⟩
    have : findOp w = -1 := by
      unfold findOp
      rw [List.findIdx?_eq_none_iff.2 fun p hp => ?_]
      obtain ⟨i, hi, rfl⟩ := List.getElem_of_mem hp
      have hi' : i < 27 := hi
      have e2 := hno i (by omega)
      rw [at_nat opsT i hi] at e2
      simpa using e2
    rw [this]; rfl
end Go.AL
