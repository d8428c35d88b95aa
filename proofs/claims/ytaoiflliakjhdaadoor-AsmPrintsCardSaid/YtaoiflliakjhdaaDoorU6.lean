/-
  How operands are read. No conditions.
-/
import Derived.Test.YtaoiflliakjhdaaDoorU5
set_option linter.unusedVariables false
set_option linter.unusedSimpArgs false
set_option maxRecDepth 100000
namespace Go.AL
open Go Go.Proofs
attribute [local irreducible] J

def tup2 (p : Int × Int) : AVal := .tup [iv p.1, iv p.2]
def rdR : Bs → Int × Int
  | [a, b] => cond (decide (a.toNat = 114)) (cond (inn b.toNat 48 55) ((b.toNat : Int) - 48, 0) (0, 3)) (0, 3)
  | _ => (0, 3)
def rdN (s : Bs) : Int × Int := cond (numOk s) (numV s, 0) (0, 3)
def rdT (m : Mp) (s : Bs) : Int × Int := cond (nameP s) (match m.lookup s with | some n => (n, 0) | none => (0, 11)) (0, 3)

theorem rdN_ok (g : Gl) (s : Bs) (hs : s.length ≤ 1000000) : ACalls Tryd.prog 50 [sv s] (gls g) (one (tup2 (rdN s)) (gls g)) := by
  have hn := number_ok g s hs
  unfold rdN
  generalize numV s = v at *
  generalize numOk s = b at *
  unfold sv bv iv at hn
  cases b
  all_goals refine jcalls Tryd.func50 rfl (by kernel_rfl) Tryd.ntmps50 rfl rfl (fun w0 β0 ext hβ => ?_)
  all_goals (
    repeat (first | refine js rfl ?_ | (refine jdraw ?_ ?_; · kernel_rfl) | refine jbu rfl rfl rfl rfl ?_)
  )
  all_goals refine jb [0,1,2,3] hn rfl rfl rfl ⟨rfl, rfl, rfl, rfl, rfl, rfl⟩ rfl rfl rfl rfl ?_
  all_goals (
    repeat (first | refine js rfl ?_ | (refine jdraw ?_ ?_; · kernel_rfl) | refine jbu rfl rfl rfl rfl ?_)
  )
  all_goals exact jr rfl rfl rfl rfl
theorem rdT_ok (m : Mp) (s : Bs) : ACalls Tryd.prog 52 [sv s, .ptr 1 0] [.vmap (encM m), .box 40 [.mp 0]] (one (tup2 (rdT m s)) [.vmap (encM m), .box 40 [.mp 0]]) := by
  have hn := isName_ok s
  have hf := encM_find m s
  have hks := encM_keys m
  unfold rdT
  generalize nameP s = b at *
  unfold sv bv at hn
  cases hlk : m.lookup s with
  | none =>
    rw [hlk] at hf
    simp only [Option.map_none] at hf
    cases b
    all_goals refine jcalls Tryd.func52 rfl (by kernel_rfl) Tryd.ntmps52 rfl rfl (fun w0 β0 ext hβ => ?_)
    all_goals (
      repeat (first | refine js rfl ?_ | (refine jdraw ?_ ?_; · kernel_rfl) | refine jbu rfl rfl rfl rfl ?_ | refine jv hn rfl rfl rfl rfl rfl ?_ | refine jo rfl rfl (map_get rfl rfl rfl rfl rfl rfl rfl rfl rfl trivial hks hf rfl) rfl rfl ?_)
    )
    all_goals exact jr rfl rfl rfl rfl
  | some n =>
    rw [hlk] at hf
    simp only [Option.map_some] at hf
    cases b
    all_goals refine jcalls Tryd.func52 rfl (by kernel_rfl) Tryd.ntmps52 rfl rfl (fun w0 β0 ext hβ => ?_)
    all_goals (
      repeat (first | refine js rfl ?_ | (refine jdraw ?_ ?_; · kernel_rfl) | refine jbu rfl rfl rfl rfl ?_ | refine jv hn rfl rfl rfl rfl rfl ?_ | refine jo rfl rfl (map_get rfl rfl rfl rfl rfl rfl rfl rfl rfl trivial hks hf rfl) rfl rfl ?_)
    )
    all_goals exact jr rfl rfl rfl rfl
theorem rdR_ok (s : Bs) : ACalls Tryd.prog 49 [sv s] [] (one (tup2 (rdR s)) []) := by
  rcases s with _ | ⟨a, _ | ⟨b, _ | ⟨c, r⟩⟩⟩
  · refine jcalls Tryd.func49 rfl (by kernel_rfl) Tryd.ntmps49 rfl rfl (fun w0 β0 ext hβ => ?_)
    unfold sv S
    repeat (first | refine js rfl ?_ | (refine jdraw ?_ ?_; · kernel_rfl) | refine jbu rfl rfl rfl rfl ?_)
    exact jr rfl rfl rfl rfl
  · refine jcalls Tryd.func49 rfl (by kernel_rfl) Tryd.ntmps49 rfl rfl (fun w0 β0 ext hβ => ?_)
    unfold sv S
    repeat (first | refine js rfl ?_ | (refine jdraw ?_ ?_; · kernel_rfl) | refine jbu rfl rfl rfl rfl ?_)
    exact jr rfl rfl rfl rfl
  · have hb : (b.toNat : Int) ≤ 255 := by have := b.toNat_lt; omega
    have hin : ACalls Tryd.prog 40 [.v (.int .i64 (IntKind.i64.wrap (b.toNat : Int))), .v (.int .i64 48), .v (.int .i64 55)] [] (one (.v (.bool (inn b.toNat 48 55))) []) := by rw [wrap_id (by omega) (by omega)]; exact in_ok _ _ _
    have ha : ((a.toNat : Int) != 114) = !decide (a.toNat = 114) := by
      rw [Bool.eq_iff_iff]; simp; omega
    have h8 : IntKind.i64.wrap (IntKind.u8.wrap ((b.toNat : Int) - 48)) = cond (inn b.toNat 48 55) ((b.toNat : Int) - 48) (IntKind.i64.wrap (IntKind.u8.wrap ((b.toNat : Int) - 48))) := by
      cases hi : inn b.toNat 48 55 with
      | false => rfl
      | true =>
        unfold inn at hi
        simp only [Bool.and_eq_true, decide_eq_true_eq] at hi
        simp only [cond_true, IntKind.wrap, IntKind.bits, IntKind.signed]
        simp
        omega
    unfold rdR
    simp only
    generalize inn b.toNat 48 55 = b2 at *
    refine jcalls Tryd.func49 rfl (by kernel_rfl) Tryd.ntmps49 rfl rfl (fun w0 β0 ext hβ => ?_)
    unfold sv S
    repeat (first | refine js rfl ?_ | (refine jdraw ?_ ?_; · kernel_rfl) | refine jbu rfl rfl rfl rfl ?_ | refine jv hin rfl rfl rfl rfl rfl ?_ | refine jo rfl rfl (index_str rfl rfl rfl rfl (by decide) (c := a) rfl) rfl rfl ?_ | refine jo rfl rfl (index_str rfl rfl rfl rfl (by decide) (c := b) rfl) rfl rfl ?_)
    rw [ha]
    generalize decide (a.toNat = 114) = b1 at *
    cases b1
    · repeat (first | refine js rfl ?_ | (refine jdraw ?_ ?_; · kernel_rfl) | refine jbu rfl rfl rfl rfl ?_)
      exact jr rfl rfl rfl rfl
    · cases b2
      · repeat (first | refine js rfl ?_ | (refine jdraw ?_ ?_; · kernel_rfl) | refine jbu rfl rfl rfl rfl ?_ | refine jv hin rfl rfl rfl rfl rfl ?_ | refine jo rfl rfl (index_str rfl rfl rfl rfl (by decide) (c := a) rfl) rfl rfl ?_ | refine jo rfl rfl (index_str rfl rfl rfl rfl (by decide) (c := b) rfl) rfl rfl ?_)
        exact jr rfl rfl rfl rfl
      · repeat (first | refine js rfl ?_ | (refine jdraw ?_ ?_; · kernel_rfl) | refine jbu rfl rfl rfl rfl ?_ | refine jv hin rfl rfl rfl rfl rfl ?_ | refine jo rfl rfl (index_str rfl rfl rfl rfl (by decide) (c := a) rfl) rfl rfl ?_ | refine jo rfl rfl (index_str rfl rfl rfl rfl (by decide) (c := b) rfl) rfl rfl ?_)
        rw [h8]
        exact jr rfl rfl rfl rfl
  · refine jcalls Tryd.func49 rfl (by kernel_rfl) Tryd.ntmps49 rfl rfl (fun w0 β0 ext hβ => ?_)
    unfold sv S
    repeat (first | refine js rfl ?_ | (refine jdraw ?_ ?_; · kernel_rfl) | refine jbu rfl rfl rfl rfl ?_)
    exact jr rfl rfl rfl rfl

/-- what an operand's sign leads to -/
def rdFns : List (Value × AVal) := [(.int .u8 114, .fn (.func 49) [] []), (.int .u8 110, .fn (.func 50) [] []), (.int .u8 116, .fn (.func 52) [] [.ptr 1 0])]
theorem readers_ok (m : Mp) : ACalls Tryd.prog 21 [.mp 0] [.vmap (encM m)] (one (.mp 2) [.vmap (encM m), .box 40 [.mp 0], .map rdFns]) := by
  refine jcalls Tryd.func21 rfl (by kernel_rfl) Tryd.ntmps21 rfl rfl (fun w0 β0 ext hβ => ?_)
  repeat (first | refine js rfl ?_ | (refine jdraw ?_ ?_; · kernel_rfl) | refine jbu rfl rfl rfl rfl ?_ | refine jo rfl rfl (map_new) rfl rfl ?_ | refine jo rfl rfl (map_put (mo' := .map [(.int .u8 114, .fn (.func 49) [] [])]) (.inr rfl) rfl rfl rfl rfl rfl rfl rfl rfl rfl rfl (by simp [MKeys]) rfl rfl) rfl rfl ?_ | refine jo rfl rfl (map_put (mo' := .map [(.int .u8 114, .fn (.func 49) [] []), (.int .u8 110, .fn (.func 50) [] [])]) (.inr rfl) rfl rfl rfl rfl rfl rfl rfl rfl rfl rfl (show MKeys (.int .u8) _ by simp [MKeys, MapKept.IsKey]) (.inr ⟨by simp, _, rfl, rfl⟩) rfl) rfl rfl ?_ | refine jo rfl rfl (map_put (mo' := .map rdFns) (.inr rfl) rfl rfl rfl rfl rfl rfl rfl rfl rfl rfl (show MKeys (.int .u8) _ by simp [MKeys, MapKept.IsKey]) (.inr ⟨by simp, _, rfl, .inr ⟨by simp, _, rfl, rfl⟩⟩) rfl) rfl rfl ?_)
  exact jret [1, 2] true rfl rfl rfl ⟨rfl, rfl⟩
end Go.AL
