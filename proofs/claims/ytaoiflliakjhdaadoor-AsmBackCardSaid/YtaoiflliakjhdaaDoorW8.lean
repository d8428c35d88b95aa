/-
  asm.Print's labels: the walk. No conditions.
-/
import Derived.Test.YtaoiflliakjhdaaDoorW7
set_option linter.unusedVariables false
set_option linter.unusedSimpArgs false
set_option maxRecDepth 100000
namespace Go.AL
open Go Go.Proofs
attribute [local irreducible] J

/-- a builder at place p -/
def bldAt (p : Nat) (u : Bool) (l : Bs) : List AObj := [.box 65 [cond u (.ptr p 0) (.v (.pointer none)), .arr (p + 1) (l.length + 1)], .arr (l.length + 1) 5 1 (l.map encB)]
def lH (g : Gl) (m : Mn) (u : Bool) (l : Bs) : List AObj := gls g ++ [.vmap (encN m), .box 56 [.mp 4]] ++ bldAt 6 u l
def labB (c : Bool) (n : Int) : Bs := cond c (([108] ++ Lib.itoa n) ++ [58, 10]) []
theorem label_ok (g : Gl) (m : Mn) (n : Int) (u : Bool) (l : Bs) (h0 : 0 ≤ n) (h1 : n ≤ 1000000000) (hl : l.length ≤ 900000) :
    ACalls Tryd.prog 33 [iv n, .ptr 5 0, .ptr 6 0] (lH g m u l) (one (.tup []) (lH g m (u || decide (cntN m n > 0)) (l ++ labB (decide (cntN m n > 0)) n))) := by
  have hf := encN_find m n
  have hks := encN_keys m
  have hval := cntN_val m n
  have hit := itoa_ok g n (by omega) (by omega)
  have hlen := itoa_len (v := n) ⟨by omega, by omega⟩
  have hw := wstr_ok u l (([108] ++ Lib.itoa n) ++ [58, 10]) (by simp) (by simp; omega)
  have e1 : ([108] : Bs).length + (Lib.itoa n).length ≤ 1000000000 := by simp; omega
  have e2 : (([108] : Bs) ++ Lib.itoa n).length + ([58, 10] : Bs).length ≤ 1000000000 := by simp; omega
  unfold lH bldAt
  unfold bld bldH adr at hw
  generalize cntN m n = cv at *
  unfold labB
  cases hc : decide (cv > 0) with
  | false =>
    simp only [Bool.or_false, cond_false, List.append_nil]
    cases u
    all_goals refine jcalls Tryd.func33 rfl (by kernel_rfl) Tryd.ntmps33 rfl rfl (fun w0 β0 ext hβ => ?_)
    all_goals (
      repeat (first | refine js rfl ?_ | (refine jdraw ?_ ?_; · kernel_rfl) | refine jbu rfl rfl rfl rfl ?_ | refine jo rfl rfl (map_get rfl rfl rfl rfl rfl rfl rfl rfl rfl rfl hks hf hval) rfl rfl ?_)
    )
    all_goals rw [hc]
    all_goals (
      repeat (first | refine js rfl ?_ | (refine jdraw ?_ ?_; · kernel_rfl) | refine jbu rfl rfl rfl rfl ?_)
    )
    all_goals exact jn rfl rfl rfl rfl
  | true =>
    simp only [Bool.or_true, cond_true]
    cases u
    all_goals refine jcalls Tryd.func33 rfl (by kernel_rfl) Tryd.ntmps33 rfl rfl (fun w0 β0 ext hβ => ?_)
    all_goals (
      repeat (first | refine js rfl ?_ | (refine jdraw ?_ ?_; · kernel_rfl) | refine jbu rfl rfl rfl rfl ?_ | refine jo rfl rfl (map_get rfl rfl rfl rfl rfl rfl rfl rfl rfl rfl hks hf hval) rfl rfl ?_)
    )
    all_goals rw [hc]
    all_goals (
      repeat (first | refine js rfl ?_ | (refine jdraw ?_ ?_; · kernel_rfl) | refine jbu rfl rfl rfl rfl ?_)
    )
    all_goals refine jb [0,1,2,3] hit rfl rfl rfl ⟨rfl, rfl, rfl, rfl, rfl, rfl⟩ rfl rfl rfl rfl ?_
    all_goals (
      repeat (first | refine js rfl ?_ | (refine jdraw ?_ ?_; · kernel_rfl) | refine jbu rfl rfl rfl rfl ?_ | refine jo rfl rfl (cat_str (a := [108]) (b := Lib.itoa n) rfl rfl e1) rfl rfl ?_ | refine jo rfl rfl (cat_str (a := [108] ++ Lib.itoa n) (b := [58, 10]) rfl rfl e2) rfl rfl ?_)
    )
    all_goals refine jb [6,7] hw rfl rfl rfl ⟨rfl, rfl, rfl, rfl, rfl, rfl⟩ rfl rfl rfl rfl ?_
    all_goals (
      repeat (first | refine js rfl ?_ | (refine jdraw ?_ ?_; · kernel_rfl) | refine jbu rfl rfl rfl rfl ?_)
    )
    all_goals exact jn rfl rfl rfl rfl
end Go.AL
