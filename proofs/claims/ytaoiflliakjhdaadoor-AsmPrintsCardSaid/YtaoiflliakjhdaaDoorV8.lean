/-
  The law's helpers: part, Same of equal lists, and the law under the plain law. No conditions.
-/
import Derived.Test.YtaoiflliakjhdaaDoorV7
set_option linter.unusedVariables false
set_option linter.unusedSimpArgs false
set_option maxRecDepth 100000
namespace Go.AL
open Go Go.Proofs
attribute [local irreducible] J

theorem part_ok (s : Bs) (hs : s.length ≤ 9223372036854775807) : ACalls Tryd.prog 8 [sv s] [] (one (sv (s.take 3000)) []) := by
  have hl : ByteArray.size ⟨s.toArray⟩ = s.length := rfl
  have hm : (if (3000 : Int) < ((ByteArray.size ⟨s.toArray⟩ : Nat) : Int) then (3000 : Int) else ((ByteArray.size ⟨s.toArray⟩ : Nat) : Int)) = ((min 3000 s.length : Nat) : Int) := by
    rw [hl]; split <;> omega
  have ht : s.take (min 3000 s.length) = s.take 3000 := by rw [← List.take_eq_take_min]
  refine jcalls Tryd.func8 rfl (by kernel_rfl) Tryd.ntmps8 rfl rfl (fun w0 β0 ext hβ => ?_)
  repeat (first | refine js rfl ?_ | (refine jdraw ?_ ?_; · kernel_rfl) | refine jbu rfl rfl rfl rfl ?_)
  rw [hm]
  refine jo rfl rfl (cutH (min 3000 s.length) rfl rfl rfl rfl rfl (by omega)) rfl rfl ?_
  rw [ht]
  repeat (first | refine js rfl ?_ | (refine jdraw ?_ ?_; · kernel_rfl) | refine jbu rfl rfl rfl rfl ?_)
  exact jr rfl rfl rfl rfl
theorem same_ok (l : List Ins) (hl : l.length ≤ 1000000) : ACalls Tryd.prog 12 [encIs l, encIs l] [] (one (bv true) []) := by
  unfold encIs
  refine jcalls Tryd.func12 rfl (by kernel_rfl) Tryd.ntmps12 rfl rfl (fun w0 β0 ext hβ => ?_)
  repeat (first | refine js rfl ?_ | (refine jdraw ?_ ?_; · kernel_rfl) | refine jbu rfl rfl rfl rfl ?_)
  refine jc rfl rfl rfl (fun h => absurd h (by simp)) (fun h => ?_)
  repeat (first | refine js rfl ?_ | (refine jdraw ?_ ?_; · kernel_rfl) | refine jbu rfl rfl rfl rfl ?_)
  refine jloopI (fun i : Nat => i ≤ l.length) [0, 1, 12, 13] (fun i => [.sl (l.map encIns), .sl (l.map encIns), .v (.int .i64 (l.map encIns).length), .v (.int .i64 i)]) (fun _ => []) (fun i => l.length - i) 0 (by omega) rfl rfl (fun i hi => ?_)
  repeat (first | refine js rfl ?_ | (refine jdraw ?_ ?_; · kernel_rfl) | refine jbu rfl rfl rfl rfl ?_)
  refine jc rfl rfl rfl (fun h => ?_) (fun h => ?_)
  · have h := of_decide_eq_true h
    rw [List.length_map] at h
    have hi1 : i < l.length := by omega
    have w1 := idx_next hi1 (by omega)
    have hx : encIns (at' l (i : Int)) = .agg (intsA [(at' l (i : Int)).op, (at' l (i : Int)).a, (at' l (i : Int)).b, (at' l (i : Int)).c]) := rfl
    repeat (first | refine js rfl ?_ | (refine jdraw ?_ ?_; · kernel_rfl) | refine jbu rfl rfl rfl rfl ?_ | refine jo rfl rfl (index_at rfl rfl rfl rfl rfl rfl rfl rfl (Int.natCast_nonneg i) h) rfl rfl ?_ | refine jo rfl rfl (eq_ints (xs := [(at' l (i : Int)).op, (at' l (i : Int)).a, (at' l (i : Int)).b, (at' l (i : Int)).c]) (ys := [(at' l (i : Int)).op, (at' l (i : Int)).a, (at' l (i : Int)).b, (at' l (i : Int)).c]) (Or.inr rfl) rfl rfl rfl rfl rfl rfl (by kernel_rfl) (by kernel_rfl)) rfl rfl ?_)
    refine jc rfl rfl rfl (fun h => absurd h (by simp)) (fun h => ?_)
    repeat (first | refine js rfl ?_ | (refine jdraw ?_ ?_; · kernel_rfl) | refine jbu rfl rfl rfl rfl ?_)
    refine jnextI (i + 1) (by omega) ?_ rfl (by omega)
    show some _ = some _
    rw [w1]
  · repeat (first | refine js rfl ?_ | (refine jdraw ?_ ?_; · kernel_rfl) | refine jbu rfl rfl rfl rfl ?_)
    exact jr rfl rfl rfl rfl
def aliveT : Bs := [97,58,10,112,108,117,115,32,114,49,32,114,49,32,45,49,10,115,111,109,101,32,114,49,32,97,10]
deriving instance DecidableEq for Ins
theorem alive_parse : parseP aliveT = ([⟨3, 1, 1, -1⟩, ⟨12, 1, 0, 0⟩], 0, 0) := by
  decide +kernel
theorem alive_ok (g : Gl) : ACalls Tryd.prog 11 [] (gls g) (one (bv true) (gls g)) := by
  have hp := parse_ok g aliveT (by decide)
  rw [alive_parse] at hp
  simp only at hp
  refine jcalls Tryd.func11 rfl (by kernel_rfl) Tryd.ntmps11 rfl rfl (fun w0 β0 ext hβ => ?_)
  repeat (first | refine js rfl ?_ | (refine jdraw ?_ ?_; · kernel_rfl) | refine jbu rfl rfl rfl rfl ?_)
  refine jb [0,1,2,3] hp rfl rfl rfl ⟨rfl, rfl, rfl, rfl, rfl, rfl⟩ rfl rfl rfl rfl ?_
  repeat (first | refine js rfl ?_ | (refine jdraw ?_ ?_; · kernel_rfl) | refine jbu rfl rfl rfl rfl ?_ | refine jo rfl rfl (index_at rfl rfl rfl rfl rfl rfl rfl rfl (Int.le_refl 0) (show (0 : Int) < 2 by decide)) rfl rfl ?_)
  have hc0 : ((at' [(⟨3, 1, 1, -1⟩ : Ins), ⟨12, 1, 0, 0⟩] (0 : Int)).c == -1) = true := by decide
  rw [hc0]
  exact jr rfl rfl rfl rfl
theorem rparse_len (s : Bs) : (rparse s).1.length ≤ s.length := by
  have hall : (rsplit 10 s).length ≤ s.length + 1 := by
    have := (spSt_le 10 s s.length).2
    unfold rsplit
    simp
    omega
  have h2 := rpSt_le (rlines s) (rlines s).length (Nat.le_refl _)
  have h3 : (rlines s).length ≤ s.length := by unfold rlines; rw [List.length_dropLast]; omega
  unfold rparse
  cases decide (s.length > 40000)
  · simp only [cond_false]
    cases bad1 (rpE (rlines s)) (rlines s).length with
    | some k => exact Nat.zero_le _
    | none =>
      cases decide ((rsplit 10 s).getLast? = some [])
      · exact Nat.zero_le _
      · exact Nat.le_trans h2 h3
  · exact Nat.zero_le _
theorem reads_ok (g : Gl) (s : Bs) (hs : s.length ≤ 9223372036854775807) (hp : parseP (s.take 3000) = rparse (s.take 3000)) : ACalls Tryd.prog 3 [sv s] (gls g) (one (bv true) (gls g)) := by
  have h1 := part_ok s hs
  have hl : (s.take 3000).length ≤ 3000 := by rw [List.length_take]; omega
  have h2 := parse_ok g (s.take 3000) (by omega)
  have h3 := rparse_ok (s.take 3000) (by omega)
  have h4 := alive_ok g
  rw [hp] at h2
  have h5 := same_ok (rparse (s.take 3000)).1 (Nat.le_trans (rparse_len _) (by omega))
  generalize rparse (s.take 3000) = r at *
  refine jcalls Tryd.func3 rfl (by kernel_rfl) Tryd.ntmps3 rfl rfl (fun w0 β0 ext hβ => ?_)
  repeat (first | refine js rfl ?_ | (refine jdraw ?_ ?_; · kernel_rfl) | refine jbu rfl rfl rfl rfl ?_)
  refine jb [] h1 rfl rfl rfl ⟨rfl, rfl, rfl, rfl, rfl, rfl⟩ rfl rfl rfl rfl ?_
  repeat (first | refine js rfl ?_ | (refine jdraw ?_ ?_; · kernel_rfl) | refine jbu rfl rfl rfl rfl ?_)
  refine jb [0,1,2,3] h2 rfl rfl rfl ⟨rfl, rfl, rfl, rfl, rfl, rfl⟩ rfl rfl rfl rfl ?_
  repeat (first | refine js rfl ?_ | (refine jdraw ?_ ?_; · kernel_rfl) | refine jbu rfl rfl rfl rfl ?_)
  refine jb [] h3 rfl rfl rfl ⟨rfl, rfl, rfl, rfl, rfl, rfl⟩ rfl rfl rfl rfl ?_
  repeat (first | refine js rfl ?_ | (refine jdraw ?_ ?_; · kernel_rfl) | refine jbu rfl rfl rfl rfl ?_)
  refine jb [0,1,2,3] h4 rfl rfl rfl ⟨rfl, rfl, rfl, rfl, rfl, rfl⟩ rfl rfl rfl rfl ?_
  repeat (first | refine js rfl ?_ | (refine jdraw ?_ ?_; · kernel_rfl) | refine jbu rfl rfl rfl rfl ?_)
  rw [beq_self_eq_true]
  repeat (first | refine js rfl ?_ | (refine jdraw ?_ ?_; · kernel_rfl) | refine jbu rfl rfl rfl rfl ?_)
  rw [beq_self_eq_true]
  repeat (first | refine js rfl ?_ | (refine jdraw ?_ ?_; · kernel_rfl) | refine jbu rfl rfl rfl rfl ?_)
  refine jb [] h5 rfl rfl rfl ⟨rfl, rfl, rfl, rfl, rfl, rfl⟩ rfl rfl rfl rfl ?_
  repeat (first | refine js rfl ?_ | (refine jdraw ?_ ?_; · kernel_rfl) | refine jbu rfl rfl rfl rfl ?_)
  exact jr rfl rfl rfl rfl
end Go.AL
