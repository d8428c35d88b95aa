/-
  Words, operations, and how one is found. No conditions.
-/
import Derived.Test.YtaoiflliakjhdaaDoorU6
import Derived.Lib.Split
import Derived.Lib.SplitLaws
set_option linter.unusedVariables false
set_option linter.unusedSimpArgs false
set_option maxRecDepth 100000
namespace Go.AL
open Go Go.Proofs
attribute [local irreducible] J

def words (s : Bs) : List Bs := Lib.split s [32]
theorem words_vals (s : Bs) : (Lib.splitB ⟨#[32]⟩ 0 (Lib.countB ⟨s.toArray⟩ ⟨#[32]⟩) ⟨s.toArray⟩).map Value.string = (words s).map S := by
  unfold words Lib.split
  have h := Lib.splitB_data ⟨#[32]⟩ 0 (Lib.countB ⟨s.toArray⟩ ⟨#[32]⟩) ⟨s.toArray⟩
  show _ = (Lib.splitK [32] 0 (Lib.count s [32]) s).map S
  rw [show Lib.splitK [32] 0 (Lib.count s [32]) s = _ from h.symm, List.map_map]
  apply List.map_congr_left
  intro b _
  rfl
theorem words_len (s : Bs) : (words s).length = Lib.countB ⟨s.toArray⟩ ⟨#[32]⟩ + 1 := by
  have h := congrArg List.length (words_vals s)
  simp only [List.length_map] at h
  rw [← h]
  exact Lib.splitB_all ⟨#[32]⟩ (by simp [ByteArray.size]) 0 _ _ rfl
theorem split_ok (g : Gl) (s : Bs) (hs : s.length ≤ 1000000) : ACalls Tryd.prog 58 [sv s, sv [32]] (gls g) (one (.slf ((words s).map sv)) (gls g)) := by
  refine ⟨⟨_, Tryd.func58, by kernel_rfl, by kernel_rfl⟩, fun ext w β us hI hx hr => ?_⟩
  rw [vals_rel (xs := [S s, S [32]]) hr]
  have hsz : ByteArray.size ⟨s.toArray⟩ ≤ 1000000 := by simpa [ByteArray.size] using hs
  have hm : w.cell? ⟨0, 0, none⟩ = some (.int .i64 g.m) := by
    have hj : 3 < β.length := by rw [hI.len]; show 3 < 4; omega
    have hfx : RelO (ctx ext w β) β[3] (.fix 0 (.cells #[.int .i64 g.m] g.t0 g.f0)) := hI.obj 3 (.fix 0 (.cells #[.int .i64 g.m] g.t0 g.f0)) _ rfl (List.getElem?_eq_getElem hj)
    have := hfx.2.2.1
    simp [World.cell?, this]
  refine (Tryd.strings_Split ⟨s.toArray⟩ ⟨#[32]⟩ g.m w (by omega) hm (by simp [ByteArray.size])).mono fun e w' ⟨h1, h2⟩ => ?_
  rw [words_vals] at h2
  rw [h1]
  have hlen := words_len s
  have hb : RowKit.Below w.heap.size w w' := by
    rw [h2]
    exact (RowKit.Below.refl _ w).alloc (Nat.le_refl _) _
  refine ⟨_, _, β, ⟨rfl, rfl⟩, ?_, below_inv hI hb, below_step hb β fun b hb => (hI.sep b hb).2⟩
  refine ⟨some ⟨w.heap.size, 0, none⟩, 1, by simp only [List.length_map]; rw [hlen], fun _ => ⟨w.heap.size, 0, rfl, ?_, ?_⟩, ?_⟩
  · rintro (hq | hq)
    · have := hx _ hq; omega
    · have := (hI.sep _ hq).2; omega
  · show w.heap.size < w'.heap.size
    rw [h2]; simp
  · refine RelR.of_get fun i a ha => ?_
    rw [List.getElem?_map] at ha
    cases hw : (words s)[i]? with
    | none => rw [hw] at ha; cases ha
    | some q =>
      rw [hw] at ha; simp at ha; subst ha
      refine ⟨S q, rfl, rfl, fun p hp => ?_⟩
      have hp0 : p = 0 := by omega
      subst hp0
      show w'.cell? ⟨w.heap.size, 0 + ((0 + i) * 1 + 0), none⟩ = _
      rw [h2]
      have := World.alloc_heap_new w (.cells ((words s).map S).toArray 9)
      simp only [World.cell?, this, Option.isSome_none]
      simp [hw, Value.cells, S]

def opsT : List (Bs × Bs) := [([104,97,108,116], []), ([115,101,116], [114,110]), ([109,111,118,101], [114,114]), ([112,108,117,115], [114,114,110]), ([109,97,115,107], [114,114,110]), ([97,100,100], [114,114,114]), ([115,117,98], [114,114,114]),
  ([97,110,100], [114,114,114]), ([120,111,114], [114,114,114]), ([108,101,115,115], [114,114,114]), ([106,117,109,112], [116]), ([122,101,114,111], [114,116]), ([115,111,109,101], [114,116]), ([99,97,108,108], [116]),
  ([114,101,116], []), ([115,101,108,102], [114]), ([108,111,97,100], [114,114,110]), ([115,116,111,114,101], [114,114,110]), ([102,101,110,99,101], []), ([99,97,115], [114,114,114]), ([120,99,104,103], [114,114]),
  ([102,101,116,99,104], [114,114]), ([98,114,111,97,100], []), ([119,97,105,116], [114,114]), ([111,119,110], [114,114]), ([100,114,111,112], [114,114]), ([109,97,114,107], [110])]
def opsC : List AVal := opsT.flatMap fun p => [sv p.1, sv p.2]
theorem operations_ok : ACalls Tryd.prog 32 [] [] (one (.agg opsC) []) := by
  refine jcalls Tryd.func32 rfl (by kernel_rfl) Tryd.ntmps32 rfl rfl (fun w0 β0 ext hβ => ?_)
  repeat (first | refine js rfl ?_ | (refine jdraw ?_ ?_; · kernel_rfl) | refine jbu rfl rfl rfl rfl ?_)
  exact jr rfl rfl rfl rfl
end Go.AL
