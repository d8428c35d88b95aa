/-
  Strings as lists of bytes; what the library does with them; names. No conditions.
-/
import Derived.Test.YtaoiflliakjhdaaDoorSh
import Derived.Test.YtaoiflliakjhdaaDoorTy
import Derived.Test.YtaoiflliakjhdaaDoorL6
import Derived.Lib.SmallJoins
set_option linter.unusedVariables false
set_option linter.unusedSimpArgs false
set_option maxRecDepth 100000
namespace Go.AL
open Go Go.Proofs
attribute [local irreducible] J

abbrev Bs := List UInt8
def S (l : Bs) : Value := .string ⟨l.toArray⟩
def sv (l : Bs) : AVal := .v (S l)
def iv (n : Int) : AVal := .v (.int .i64 n)
def bv (b : Bool) : AVal := .v (.bool b)

theorem indexByte_ok (l : Bs) (c : UInt8) : ACalls Tryd.prog 54 [sv l, .v (.int .u8 c.toNat)] [] (one (iv (Lib.indexByte l c)) []) :=
  lib_one (xs := [S l, .int .u8 c.toNat]) (u := .int .i64 (Lib.indexByte l c)) ⟨_, Tryd.func54, by kernel_rfl, by kernel_rfl⟩ (fun _ => rfl) fun w => (Tryd.strings_IndexByte ⟨l.toArray⟩ c.toNat w).mono fun e w' ⟨h1, h2⟩ => by
    subst h2
    refine ⟨?_, RowKit.Below.refl _ _⟩
    rw [h1]
    simp
theorem cutSuffix_ok (l p : Bs) (hl : l.length ≤ 9223372036854775807) : ACalls Tryd.prog 23 [sv l, sv p] [] (one (.tup [sv (Lib.trimSuffix l p), bv (Lib.hasSuffix l p)]) []) :=
  lib_one (xs := [S l, S p]) (u := .tuple #[S (Lib.trimSuffix l p), .bool (Lib.hasSuffix l p)]) ⟨_, Tryd.func23, by kernel_rfl, by kernel_rfl⟩ (fun _ => ⟨_, rfl, _, _, rfl, rfl, _, _, rfl, rfl, rfl⟩) fun w => (Tryd.strings_CutSuffix ⟨l.toArray⟩ ⟨p.toArray⟩ w (by simpa [ByteArray.size] using hl)).mono fun e w' ⟨h1, h2⟩ => by
    subst h2
    exact ⟨h1, RowKit.Below.refl _ _⟩
theorem index1_ok (l : Bs) (c : UInt8) : ACalls Tryd.prog 79 [sv l, sv [c]] [] (one (iv (Lib.indexByte l c)) []) :=
  lib_one (xs := [S l, S [c]]) (u := .int .i64 (Lib.indexByte l c)) ⟨_, Tryd.func79, by kernel_rfl, by kernel_rfl⟩ (fun _ => rfl) fun w => (Tryd.strings_Index_one ⟨l.toArray⟩ c w).mono fun e w' ⟨h1, h2⟩ => by
    subst h2
    exact ⟨h1, RowKit.Below.refl _ _⟩
theorem count1_ok (l : Bs) (c : UInt8) : ACalls Tryd.prog 78 [sv l, sv [c]] [] (one (iv (Lib.countByte l c)) []) :=
  lib_one (xs := [S l, S [c]]) (u := .int .i64 (Lib.countByte l c)) ⟨_, Tryd.func78, by kernel_rfl, by kernel_rfl⟩ (fun _ => rfl) fun w => (Tryd.strings_Count_one ⟨l.toArray⟩ c w).mono fun e w' ⟨h1, h2⟩ => by
    subst h2
    exact ⟨h1, RowKit.Below.refl _ _⟩

/-- within -/
def inn (n a b : Int) : Bool := decide (n ≥ a) && decide (n ≤ b)
theorem in_ok (n a b : Int) : ACalls Tryd.prog 40 [iv n, iv a, iv b] [] (one (bv (inn n a b)) []) := by
  refine jcalls Tryd.func40 rfl (by kernel_rfl) Tryd.ntmps40 rfl rfl (fun w0 β0 ext hβ => ?_)
  unfold iv
  repeat (first | refine js rfl ?_ | (refine jdraw ?_ ?_; · kernel_rfl) | refine jbu rfl rfl rfl rfl ?_)
  refine jg rfl rfl rfl rfl (fun h => ?_) (fun h => ?_)
  · repeat (first | refine js rfl ?_ | (refine jdraw ?_ ?_; · kernel_rfl) | refine jbu rfl rfl rfl rfl ?_)
    refine jr rfl rfl ?_ rfl
    unfold bv
    rw [inn, h]; rfl
  · repeat (first | refine js rfl ?_ | (refine jdraw ?_ ?_; · kernel_rfl) | refine jbu rfl rfl rfl rfl ?_)
    refine jr rfl rfl ?_ rfl
    unfold bv
    rw [inn, h]; rfl

/-- a rune that may not stand in a name -/
def notN (r : Nat) : Bool := !inn r 97 122 && !inn r 48 57
theorem notN_ok (r : Nat) (hr : r ≤ 1114111) : ACalls Tryd.prog 57 [.v (.int .i32 r)] [] (one (bv (notN r)) []) := by
  have e : (IntKind.i64.wrap (r : Int)) = r := wrap_id (by omega) (by omega)
  have h1 : ACalls Tryd.prog 40 [.v (.int .i64 (IntKind.i64.wrap (r : Int))), .v (.int .i64 97), .v (.int .i64 122)] [] (one (.v (.bool (inn r 97 122))) []) := by rw [e]; exact in_ok r 97 122
  have h2 : ACalls Tryd.prog 40 [.v (.int .i64 (IntKind.i64.wrap (r : Int))), .v (.int .i64 48), .v (.int .i64 57)] [] (one (.v (.bool (inn r 48 57))) []) := by rw [e]; exact in_ok r 48 57
  unfold notN bv
  generalize inn r 97 122 = b1 at *
  generalize inn r 48 57 = b2 at *
  cases b1 <;> cases b2
  all_goals refine jcalls Tryd.func57 rfl (by kernel_rfl) Tryd.ntmps57 rfl rfl (fun w0 β0 ext hβ => ?_)
  all_goals (
    repeat (first | refine js rfl ?_ | (refine jdraw ?_ ?_; · kernel_rfl) | refine jbu rfl rfl rfl rfl ?_ | refine jv h1 rfl rfl rfl rfl rfl ?_ | refine jv h2 rfl rfl rfl rfl rfl ?_)
  )
  all_goals exact jr rfl rfl rfl rfl

theorem contains_ok (l : Bs) : ACalls Tryd.prog 56 [sv l, .fn (.func 57) [] []] [] (one (bv (decide (0 ≤ Lib.idxFunc notN true ⟨l.toArray⟩))) []) := by
  refine ⟨⟨_, Tryd.func56, by kernel_rfl, by kernel_rfl⟩, fun ext w β us hI hx hr => ?_⟩
  obtain ⟨u1, us1, rfl, h1, u2, us2, rfl, ⟨a1, a2, rfl, g1, g2⟩, h3⟩ := hr
  have h3 : us2 = [] := h3
  have e1 : a1 = #[] := Array.toList_eq_nil_iff.1 g1
  have e2 : a2 = #[] := Array.toList_eq_nil_iff.1 g2
  have h1 : u1 = S l := h1
  subst h3; subst e1; subst e2; subst h1
  refine (Tryd.strings_ContainsFunc_grows 57 #[] (fun args w => callFunc_run ⟨_, Tryd.func57, by kernel_rfl, by kernel_rfl⟩ args w) notN ⟨l.toArray⟩ w ?_).mono fun e w' ⟨h1, h2⟩ => ?_
  · intro W x hx hb
    exact lib_back (xs := [.int .i32 x]) (x := .bool (notN x)) (notN_ok x hx) W
  · subst h1
    exact ⟨_, _, β, ⟨rfl, rfl⟩, rfl, below_inv hI h2, below_step h2 β fun b hb => (hI.sep b hb).2⟩
end Go.AL
