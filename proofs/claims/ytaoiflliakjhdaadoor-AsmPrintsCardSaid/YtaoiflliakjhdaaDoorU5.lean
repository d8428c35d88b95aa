/-
  Numbers, and how operands are read. No conditions.
-/
import Derived.Test.YtaoiflliakjhdaaDoorU4
import Derived.Test.YtaoiflliakjhdaaDoorL6
import Derived.Lib.SmallJoins
set_option linter.unusedVariables false
set_option linter.unusedSimpArgs false
set_option maxRecDepth 100000
namespace Go.AL
open Go Go.Proofs
attribute [local irreducible] J

/-- what the library's variables hold -/
structure Gl where
  t1 : TypeId
  t2 : TypeId
  t3 : TypeId
  f1 : Nat × Nat
  f2 : Nat × Nat
  f3 : Nat × Nat
  e2 : TypeId
  e3 : TypeId
  p2 : Value
  p3 : Value
  t0 : TypeId
  f0 : Nat × Nat
  m : Int
def powV : Array Value := (Lib.pow10Tab.map fun z => Value.int .u64 z).toArray
def Gl.a (g : Gl) : AObj := .fix 1 (.cells powV g.t1 g.f1)
def Gl.b (g : Gl) : AObj := .fix 2 (.cells #[.iface g.e2 g.p2] g.t2 g.f2)
def Gl.c (g : Gl) : AObj := .fix 3 (.cells #[.iface g.e3 g.p3] g.t3 g.f3)
def Gl.d (g : Gl) : AObj := .fix 0 (.cells #[.int .i64 g.m] g.t0 g.f0)
def gls (g : Gl) : List AObj := [g.a, g.b, g.c, g.d]

theorem tab_named : Tryd.prog.globalNamed "internal/strconv.uint64pow10" = some 1 := by kernel_rfl
theorem itoa_ok (g : Gl) (n : Int) (h0 : -9223372036854775808 ≤ n) (h1 : n ≤ 9223372036854775807) : ACalls Tryd.prog 35 [iv n] (gls g) (one (sv (Lib.itoa n)) (gls g)) :=
  lib_calls (xs := [.int .i64 n]) ⟨_, Tryd.func35, by kernel_rfl, by kernel_rfl⟩ fun w hw => by
    have h := hw 1 _ (show AObj.fix 1 (.cells powV g.t1 g.f1) ∈ gls g from List.mem_cons_self ..)
    refine (Tryd.strconv_Itoa n h0 h1 w ?_).mono fun e w' hq => ?_
    · unfold Lib.TabIs World.var?
      rw [tab_named]
      show (match w.heap[1]? with | some (.cells cs _ _) => some cs | _ => none) = _
      rw [h]; rfl
    · obtain ⟨h2, k, os, h3⟩ := hq
      subst h3
      refine ⟨_, sv (Lib.itoa n), h2, fun _ => rfl, ⟨rfl, rfl⟩, ⟨rfl, rfl, rfl, ?_, fun b hb => ?_⟩⟩
      · show w.heap.size ≤ (w.heap ++ os).size
        rw [Array.size_append]; omega
      · show (w.heap ++ os)[b]? = _
        rw [Array.getElem?_append_left hb]

def atoiQ (g : Gl) (s : Bs) : Eff := fun r H' => H' = gls g ∧ match Lib.atoiAll s with
  | .ok v => r = .ret (.tup [iv v, .v .nilIface])
  | .syntax => ∃ N, r = .ret (.tup [iv 0, .v (.iface 112 (.pointer (some ⟨N, 0, none⟩)))])
  | .range => ∃ N, r = .ret (.tup [iv (Lib.atoiSat s), .v (.iface 112 (.pointer (some ⟨N, 0, none⟩)))])
theorem below_bytes {w w' : World} (h : w' = w ∨ ∃ t, w' = Lib.bytesWorld w 5 t) : RowKit.Below w.heap.size w w' := by
  rcases h with rfl | ⟨t, rfl⟩
  · exact RowKit.Below.refl _ _
  · exact Joins.below_bytesWorld _ w 5 t (Nat.le_refl _)
theorem atoi_ok (g : Gl) (s : Bs) (hs : s.length ≤ 1000000) : ACalls Tryd.prog 65 [sv s] (gls g) (atoiQ g s) :=
  lib_calls (xs := [S s]) ⟨_, Tryd.func65, by kernel_rfl, by kernel_rfl⟩ fun w hw => by
    have hsz : ByteArray.size ⟨s.toArray⟩ ≤ 1000000 := by simpa [ByteArray.size] using hs
    have h2 := hw 2 _ (show AObj.fix 2 (.cells #[.iface g.e2 g.p2] g.t2 g.f2) ∈ gls g from List.mem_cons_of_mem _ (List.mem_cons_self ..))
    have h3 := hw 3 _ (show AObj.fix 3 (.cells #[.iface g.e3 g.p3] g.t3 g.f3) ∈ gls g from List.mem_cons_of_mem _ (List.mem_cons_of_mem _ (List.mem_cons_self ..)))
    have c2 : w.cell? ⟨2, 0, none⟩ = some (.iface g.e2 g.p2) := by simp [World.cell?, h2]
    have c3 : w.cell? ⟨3, 0, none⟩ = some (.iface g.e3 g.p3) := by simp [World.cell?, h3]
    cases ha : Lib.atoiAll s with
    | ok v =>
      refine (Tryd.strconv_Atoi_ok ⟨s.toArray⟩ (by omega) v ha w).mono fun e w' ⟨q1, q2⟩ => ?_
      refine ⟨_, .tup [iv v, .v .nilIface], q1, fun _ => ⟨_, rfl, _, _, rfl, rfl, _, _, rfl, rfl, rfl⟩, ⟨rfl, ?_⟩, below_bytes q2⟩
      rw [ha]
    | «syntax» =>
      refine (Tryd.strconv_Atoi_syntax ⟨s.toArray⟩ (by omega) ha _ w c2 (.inr ⟨_, _, rfl⟩)).mono fun e w' ⟨N, q1, _, _, q2⟩ => ?_
      refine ⟨_, .tup [iv 0, .v (.iface 112 (.pointer (some ⟨N, 0, none⟩)))], q1, fun _ => ⟨_, rfl, _, _, rfl, rfl, _, _, rfl, rfl, rfl⟩, ⟨rfl, ?_⟩, q2⟩
      rw [ha]
      exact ⟨N, rfl⟩
    | range =>
      refine (Tryd.strconv_Atoi_range ⟨s.toArray⟩ (by omega) ha _ w c3 (.inr ⟨_, _, rfl⟩)).mono fun e w' ⟨N, q1, _, _, q2⟩ => ?_
      refine ⟨_, .tup [iv (Lib.atoiSat s), .v (.iface 112 (.pointer (some ⟨N, 0, none⟩)))], q1, fun _ => ⟨_, rfl, _, _, rfl, rfl, _, _, rfl, rfl, rfl⟩, ⟨rfl, ?_⟩, q2⟩
      rw [ha]
      exact ⟨N, rfl⟩

def numV (s : Bs) : Int := match Lib.atoiAll s with | .ok v => v | .syntax => 0 | .range => Lib.atoiSat s
def numOk (s : Bs) : Bool := match Lib.atoiAll s with | .ok v => decide (Lib.itoa v = s) && inn v (-1000000000) 1000000000 | _ => false
theorem atoi_range {s : Bs} {v : Int} (h : Lib.atoiAll s = .ok v) : -9223372036854775808 ≤ v ∧ v ≤ 9223372036854775807 := by
  unfold Lib.atoiAll at h
  split at h
  · cases h
  · split at h
    · cases h
    · cases h
    · rename_i u hu
      simp only at h
      split at h
      · cases h
      · split at h
        · cases h
        · injection h with h
          split at h <;> omega

theorem str_eq (a b : Bs) : ((⟨a.toArray⟩ : ByteArray).toList == (⟨b.toArray⟩ : ByteArray).toList) = decide (a = b) := by
  have h : ∀ l : Bs, (⟨l.toArray⟩ : ByteArray).toList = l := fun l => by simp
  rw [h, h]
  by_cases e : a = b <;> simp [e]

theorem number_ok (g : Gl) (s : Bs) (hs : s.length ≤ 1000000) : ACalls Tryd.prog 51 [sv s] (gls g) (one (.tup [iv (numV s), bv (numOk s)]) (gls g)) := by
  have ha := atoi_ok g s hs
  unfold atoiQ at ha
  unfold numV numOk
  cases hat : Lib.atoiAll s with
  | ok v =>
    rw [hat] at ha
    obtain ⟨r1, r2⟩ := atoi_range hat
    have hi := itoa_ok g v r1 r2
    have hin := in_ok v (-1000000000) 1000000000
    simp only
    generalize inn v (-1000000000) 1000000000 = b1 at *
    unfold iv bv at hin
    unfold sv iv at hi
    have key := str_eq (Lib.itoa v) s
    refine jcalls Tryd.func51 rfl (by kernel_rfl) Tryd.ntmps51 rfl rfl (fun w0 β0 ext hβ => ?_)
    repeat (first | refine js rfl ?_ | (refine jdraw ?_ ?_; · kernel_rfl) | refine jbu rfl rfl rfl rfl ?_)
    refine jcq ha rfl rfl rfl rfl (fun r H' hres => ?_)
    obtain ⟨rfl, rfl⟩ := hres
    refine ⟨_, rfl, ?_⟩
    repeat (first | refine js rfl ?_ | (refine jdraw ?_ ?_; · kernel_rfl) | refine jbu rfl rfl rfl rfl ?_ | refine jo rfl rfl (eq_nilI rfl rfl rfl) rfl rfl ?_)
    refine jb [0,1,2,3] hi rfl rfl rfl ⟨rfl, rfl, rfl, rfl, rfl, rfl⟩ rfl rfl rfl rfl ?_
    repeat (first | refine js rfl ?_ | (refine jdraw ?_ ?_; · kernel_rfl) | refine jbu rfl rfl rfl rfl ?_)
    rw [key]
    generalize decide (Lib.itoa v = s) = b2 at *
    cases b2
    · repeat (first | refine js rfl ?_ | (refine jdraw ?_ ?_; · kernel_rfl) | refine jbu rfl rfl rfl rfl ?_)
      exact jr rfl rfl rfl rfl
    · repeat (first | refine js rfl ?_ | (refine jdraw ?_ ?_; · kernel_rfl) | refine jbu rfl rfl rfl rfl ?_ | refine jv hin rfl rfl rfl rfl rfl ?_)
      exact jr rfl rfl rfl rfl
  | «syntax» =>
    rw [hat] at ha
    refine jcalls Tryd.func51 rfl (by kernel_rfl) Tryd.ntmps51 rfl rfl (fun w0 β0 ext hβ => ?_)
    repeat (first | refine js rfl ?_ | (refine jdraw ?_ ?_; · kernel_rfl) | refine jbu rfl rfl rfl rfl ?_)
    refine jcq ha rfl rfl rfl rfl (fun r H' hres => ?_)
    obtain ⟨rfl, N, rfl⟩ := hres
    refine ⟨_, rfl, ?_⟩
    repeat (first | refine js rfl ?_ | (refine jdraw ?_ ?_; · kernel_rfl) | refine jbu rfl rfl rfl rfl ?_ | refine jo rfl rfl (eq_someI rfl rfl rfl) rfl rfl ?_)
    exact jr rfl rfl rfl rfl
  | range =>
    rw [hat] at ha
    refine jcalls Tryd.func51 rfl (by kernel_rfl) Tryd.ntmps51 rfl rfl (fun w0 β0 ext hβ => ?_)
    repeat (first | refine js rfl ?_ | (refine jdraw ?_ ?_; · kernel_rfl) | refine jbu rfl rfl rfl rfl ?_)
    refine jcq ha rfl rfl rfl rfl (fun r H' hres => ?_)
    obtain ⟨rfl, N, rfl⟩ := hres
    refine ⟨_, rfl, ?_⟩
    repeat (first | refine js rfl ?_ | (refine jdraw ?_ ?_; · kernel_rfl) | refine jbu rfl rfl rfl rfl ?_ | refine jo rfl rfl (eq_someI rfl rfl rfl) rfl rfl ?_)
    exact jr rfl rfl rfl rfl
end Go.AL
