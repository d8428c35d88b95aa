/-
  What the rows of this seat ask of the library's variables, as fixed blocks. No conditions.
-/
import Derived.Test.YtaoiflliakjhdaaDoorU5
import Derived.Test.YtaoiflliakjhdaaDoorL5
import Derived.Test.YtaoiflliakjhdaaDoorL7
import Derived.Test.YtaoiflliakjhdaaDoorRows
import Derived.JoinedOf
import Derived.JoinedAt
import Derived.RowKit3
import Derived.LaidMore
import Derived.Lib.LaidTab
import Derived.Stop.LaidErr
set_option linter.unusedVariables false
set_option maxRecDepth 100000
namespace Go.Proofs.YtaoiflliakjhdaaDoor
open Go Go.AL Go.ChangeShapes Go.WideShapes Go.ChangeAt Go.RowKit

theorem own : ownKnob Tryd.prog.godebug = none := by kernel_rfl
theorem kids : Kids Tryd.prog (· < Tryd.prog.types.size) := kids_rows (by kernel_rfl) (by kernel_rfl)
theorem full : ∀ t e, t < Tryd.prog.types.size → Tryd.prog.underlying t = some (.slice e) → 0 < Tryd.prog.cellsOf e := slices_full_of _ (by kernel_rfl)
theorem g_pow : Tryd.prog.globalNamed "internal/strconv.uint64pow10" = some 1 := by kernel_rfl
theorem g_syn : Tryd.prog.globalNamed "strconv.ErrSyntax" = some 2 := by kernel_rfl
theorem g_ran : Tryd.prog.globalNamed "strconv.ErrRange" = some 3 := by kernel_rfl
def glx (g : Gl) : List (Nat × Obj) := [(1, .cells powV g.t1 g.f1), (2, .cells #[.iface g.e2 g.p2] g.t2 g.f2), (3, .cells #[.iface g.e3 g.p3] g.t3 g.f3), (0, .cells #[.int .i64 g.m] g.t0 g.f0)]
theorem glx_fixes (g : Gl) : fixes (glx g) = gls g := rfl
theorem var_heap {W : World} {n : String} {g : Nat} {cs : Array Value} (hg : Tryd.prog.globalNamed n = some g) (hv : W.var? Tryd.prog n = some cs) : ∃ t f, W.heap[g]? = some (.cells cs t f) := by
  unfold World.var? at hv
  rw [hg] at hv
  simp only [Option.bind_some] at hv
  split at hv
  · rename_i c t f h
    injection hv with hv
    exact ⟨t, f, by rw [h, hv]⟩
  · cases hv
theorem iface_head {W : World} {n nm : String} {x : DataW Unit} {r : List (String × DataW Unit)} {g : Nat} {t : TypeId} {ms : Array (String × TypeId)} (h : laidMet Tryd.prog ((n, .iface nm x) :: r) W)
    (hg : Tryd.prog.globalNamed n = some g) (ht : (Tryd.prog.globals[g]?).map (·.type) = some t) (hu : Tryd.prog.underlying t = some (.interface ms)) : ∃ e p, W.var? Tryd.prog n = some #[.iface e p] := by
  obtain ⟨ps, ⟨g0, t0, cs0, f0, p0, q0, hg0, ht0, hv0, hd0, _, _⟩, _, _⟩ := h
  obtain rfl := Option.some.inj (hg.symm.trans hg0)
  obtain rfl := Option.some.inj (ht.symm.trans ht0)
  obtain ⟨_, u, v, e, _, _⟩ := iface_of_trod hu hd0
  refine ⟨u, v, ?_⟩
  rw [hv0]
  congr 1
  apply Array.ext'
  simpa using e
theorem gl_exists {W : World} (hL : laidMetH Tryd.prog Rows.asmReadsRow.laid W) (hS : W.ShapedOpen Tryd.prog) : ∃ g : Gl, ∀ p ∈ glx g, W.heap[p.1]? = some p.2 ∧ ∀ d, p.2 ≠ .deferred d := by
  rw [MakeChecks.laidMetH_plain _ _ _ (by kernel_rfl)] at hL
  have h3 := hL.tail.tail
  have h5 := h3.tail.tail
  have h6 := h5.tail
  obtain ⟨t1, f1, a1⟩ := var_heap g_pow (Lib.tabIs_of_head (k := .u64) (zs := Lib.pow10Tab) (n := 20) (t := 120) (e := 104) g_pow (by kernel_rfl) (by kernel_rfl) (by kernel_rfl) (by kernel_rfl) (by kernel_rfl) h3)
  obtain ⟨e3, p3, b3⟩ := iface_head (t := 67) h5 g_ran (by kernel_rfl) Tryd.underlying67
  obtain ⟨e2, p2, b2⟩ := iface_head (t := 67) h6 g_syn (by kernel_rfl) Tryd.underlying67
  obtain ⟨t3, f3, a3⟩ := var_heap g_ran b3
  obtain ⟨t2, f2, a2⟩ := var_heap g_syn b2
  obtain ⟨m, a0⟩ := shaped_int (g := 0) (t := 3) (zero := #[.int .i64 0]) (k := .i64) hS (of_decide_eq_true (by kernel_rfl)) (by kernel_rfl) rfl (by kernel_rfl) (by kernel_rfl) (by kernel_rfl)
  refine ⟨⟨t1, t2, t3, f1, f2, f3, e2, e3, p2, p3, 3, (0, 0), m⟩, fun p hp => ?_⟩
  simp only [glx, List.mem_cons, List.mem_nil_iff, or_false] at hp
  rcases hp with rfl | rfl | rfl | rfl
  · exact ⟨a1, fun d h => by cases h⟩
  · exact ⟨a2, fun d h => by cases h⟩
  · exact ⟨a3, fun d h => by cases h⟩
  · exact ⟨a0, fun d h => by cases h⟩
end Go.Proofs.YtaoiflliakjhdaaDoor
