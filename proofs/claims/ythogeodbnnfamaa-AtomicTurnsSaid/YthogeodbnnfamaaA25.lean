/-
  A contract for a slice serves also where its room is known to be its length. No conditions.
-/
import Derived.Test.YthogeodbnnfamaaA24
set_option linter.unusedVariables false
namespace Go.AL
open Go
section
variable {P : Program}
theorem ACalls.slf {f : FuncId} {xs : List AVal} {args : List AVal} {H : List AObj} {Q : Eff} (h : ACalls P f (.sl xs :: args) H Q) : ACalls P f (.slf xs :: args) H Q :=
  ⟨h.enters, fun ext w β us hI hx hr => h.calls ext w β us hI hx (by
    obtain ⟨u, us', e, r, rs⟩ := hr
    exact ⟨u, us', e, sl_weak r, rs⟩)⟩
end
end Go.AL
