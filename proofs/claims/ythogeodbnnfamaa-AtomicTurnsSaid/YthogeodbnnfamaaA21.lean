/-
  A value in a frame is told in other words. No conditions.
-/
import Derived.Test.YthogeodbnnfamaaA20
set_option linter.unusedVariables false
namespace Go.AL
open Go
section
variable {P : Program} {G : Gh} {ops : Array Oper} {Q : APost} {R : Fr → List AObj → Prop}
theorem aw_re {c : Code} {F : Fr} {H : List AObj} (t : Nat) {v v' : AVal} (h : fget F t = some v) (e : v = v') (next : AW P G c Q (fset F t v') H) : AW P G c Q F H := by
  subst e; rwa [fset_same h] at next
theorem awl_re {l : List Oper} {F : Fr} {H : List AObj} (t : Nat) {v v' : AVal} (h : fget F t = some v) (e : v = v') (next : AWL P G ops Q l (fset F t v') H) : AWL P G ops Q l F H := by
  subst e; rwa [fset_same h] at next
theorem awd_re {l : List (Nat × Oper × K)} {F : Fr} {H : List AObj} (t : Nat) {v v' : AVal} (h : fget F t = some v) (e : v = v') (next : AWD P G ops R l (fset F t v') H) : AWD P G ops R l F H := by
  subst e; rwa [fset_same h] at next
/-- whole numbers in other words -/
theorem int_re {n n' : Int} {k : IntKind} (h : n = n') : AVal.v (.int k n) = AVal.v (.int k n') := by rw [h]
theorem bool_re {b b' : Bool} (h : b = b') : AVal.v (.bool b) = AVal.v (.bool b') := by rw [h]
theorem heap_re {l : List Oper} {F : Fr} {H H' : List AObj} (e : H = H') (next : AWL P G ops Q l F H') : AWL P G ops Q l F H := by subst e; exact next
theorem aw_heap_re {c : Code} {F : Fr} {H H' : List AObj} (e : H = H') (next : AW P G c Q F H') : AW P G c Q F H := by subst e; exact next
theorem half_id {n : Int} (h0 : 0 ≤ n) (h1 : n ≤ 9223372036854775807) : IntKind.i64.wrap ((IntKind.u64.wrap (IntKind.i64.wrap n)).fdiv (2 ^ min (Int.toNat 1) IntKind.u64.bits)) = n / 2 := by
  rw [wrap_id (n := n) (by omega) h1]
  have e1 : ∀ m : Int, 0 ≤ m → m ≤ 9223372036854775807 → IntKind.u64.wrap m = m := fun m h0 h1 => by
    simp only [IntKind.wrap, IntKind.bits, IntKind.signed]
    simp
    omega
  rw [e1 n h0 h1]
  have e2 : n.fdiv (2 ^ min (Int.toNat 1) IntKind.u64.bits) = n / 2 := by
    show n.fdiv (2 ^ 1) = n / 2
    rw [Int.fdiv_eq_ediv_of_nonneg _ (by decide)]; rfl
  rw [e2, wrap_id (by omega) (by omega)]
/-- a call of what takes and gives plain values, in any order of what is near -/
theorem awl_val {F : Fr} {H : List AObj} {d : Tmp} {ty : TypeId} {pos : String} {aft : Array Edge} {g : Option (Nat × Bool)} {l : List Oper} {fo : Operand} {args : Array Operand} {argTypes : Array TypeId} {f : FuncId} {first vs cap : List AVal} {v : AVal}
    (hc : ACalls P f (first ++ vs ++ cap) [] (one v [])) (hd : Nat.blt d G.n = true) (hg : guardA ops F ⟨some d, .call { callee := .value fo, args, argTypes }, ty, pos, aft, g⟩ = some true) (hf : ev F fo = some (.fn (.func f) first cap)) (ha : evs F args.toList = some vs)
    (hl : ltL 0 (first ++ vs ++ cap) = true) (hr : ∀ τ, rnL τ (first ++ vs ++ cap) = first ++ vs ++ cap) (hv : ∀ τ, rnV τ v = v)
    (next : AWL P G ops Q l ((d, v) :: F) H) : AWL P G ops Q (⟨some d, .call { callee := .value fo, args, argTypes }, ty, pos, aft, g⟩ :: l) F H :=
  awl_d hd hg (call_val hf ha hc hl hr hv) next
end
end Go.AL
