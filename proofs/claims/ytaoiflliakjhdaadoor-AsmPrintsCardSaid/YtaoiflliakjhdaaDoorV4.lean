/-
  The reference's words on targets and operands. No conditions.
-/
import Derived.Test.YtaoiflliakjhdaaDoorV3
set_option linter.unusedVariables false
set_option linter.unusedSimpArgs false
set_option maxRecDepth 100000
namespace Go.AL
open Go Go.Proofs
attribute [local irreducible] J

theorem cat_str {P : Program} {F : Fr} {H : List AObj} {dst : Option Tmp} {t yt : TypeId} {x y : Operand} {type : TypeId} {pos : String} {after : Array Edge} {guard : Option (Nat × Bool)} {a b : Bs} (hx : ev F x = some (sv a)) (hy : ev F y = some (sv b)) (hl : a.length + b.length ≤ 1000000000) :
    DSem P .p ⟨dst, .binOp .add t x y yt, type, pos, after, guard⟩ F H (sv (a ++ b)) H := by
  refine ⟨rfl, fun H' => Says.sem (says_bin hx hy (fun c u u' w r1 r2 => ?_) ⟨_, rfl⟩) H'⟩
  cases (show u = S a from r1); cases (show u' = S b from r2)
  have hsz : ¬ (((ByteArray.size ⟨a.toArray⟩ + ByteArray.size ⟨b.toArray⟩ : Nat) : Int) > IntKind.i64.max) := by
    rw [show ByteArray.size ⟨a.toArray⟩ = a.length from rfl, show ByteArray.size ⟨b.toArray⟩ = b.length from rfl, show IntKind.i64.max = 9223372036854775807 from rfl]
    omega
  have hc : ((⟨a.toArray⟩ : ByteArray) ++ ⟨b.toArray⟩) = ⟨(a ++ b).toArray⟩ := by
    apply ByteArray.ext
    simp
  unfold S
  simp only [Sem.run_bind, run_eqGuard_string, Result.andThen_ok]
  simp only [binOp, Op.stringOp, if_neg hsz, hc]
  rfl
def nl (ls : List Bs) (i : Nat) : Int := (((ls.take i).filter fun l => !rlab l).length : Nat)
theorem nl_succ {ls : List Bs} {i : Nat} (h : i < ls.length) : nl ls (i + 1) = cond (rlab ls[i]) (nl ls i) (nl ls i + 1) := by
  unfold nl
  rw [List.take_succ_eq_append_getElem h, List.filter_append, List.length_append]
  cases hr : rlab ls[i] <;> simp [hr]
theorem nl_le (ls : List Bs) (i : Nat) : 0 ≤ nl ls i ∧ nl ls i ≤ i := by
  unfold nl
  have := List.length_filter_le (fun l => !rlab l) (ls.take i)
  rw [List.length_take] at this
  omega
def rtarget (ls : List Bs) (s : Bs) : Int × Bool := match ls.findIdx? (fun l => decide (l = s ++ [58])) with | some i => (nl ls i, true) | none => (0, false)
theorem rtarget_ok (ls : List Bs) (s : Bs) (hs : s.length ≤ 1000000) (hls : ls.length ≤ 1000000) (hl : ∀ l ∈ ls, l.length ≤ 1000000) : ACalls Tryd.prog 30 [.sl (ls.map sv), sv s] [] (one (.tup [iv (rtarget ls s).1, bv (rtarget ls s).2]) []) := by
  refine jcalls Tryd.func30 rfl (by kernel_rfl) Tryd.ntmps30 rfl rfl (fun w0 β0 ext hβ => ?_)
  repeat (first | refine js rfl ?_ | (refine jdraw ?_ ?_; · kernel_rfl) | refine jbu rfl rfl rfl rfl ?_)
  refine jloopI (fun i : Nat => i ≤ ls.length ∧ ∀ q, q < i → ls.getD q [] ≠ s ++ [58]) [0, 1, 9, 6, 11, 10] (fun i => [.sl (ls.map sv), sv s, .sl (ls.map sv), .v (.int .i64 (nl ls i)), .v (.int .i64 (i : Int)), .v (.int .i64 ((ls.map sv).length : Int))]) (fun _ => []) (fun i => ls.length - i) 0 ⟨Nat.zero_le _, fun q h => absurd h (by omega)⟩ ?_ rfl (fun i hi => ?_)
  · rfl
  obtain ⟨hi, hok⟩ := hi
  have hnl := nl_le ls i
  repeat (first | refine js rfl ?_ | (refine jdraw ?_ ?_; · kernel_rfl) | refine jbu rfl rfl rfl rfl ?_)
  refine jc rfl rfl rfl (fun h => ?_) (fun h => ?_)
  · have h := of_decide_eq_true h
    rw [List.length_map] at h
    have hi2 : i < ls.length := by omega
    have hat := at_nat ls i hi2
    have hlab := rlab_ok (at' ls (i : Int)) (by rw [hat]; exact hl _ (List.getElem_mem hi2))
    have key := str_eq (at' ls (i : Int)) (s ++ [58])
    have hnx := idx_next hi2 (by omega)
    have hsu := nl_succ hi2
    have hgd : ls.getD i [] = ls[i] := by simp [List.getD, hi2]
    rw [← hat] at hsu hgd
    have hadd : IntKind.i64.wrap (nl ls i + 1) = nl ls i + 1 := wrap_id (by omega) (by omega)
    unfold sv bv at hlab
    have hcl : s.length + ([58] : Bs).length ≤ 1000000000 := by simp; omega
    repeat (first | refine js rfl ?_ | (refine jdraw ?_ ?_; · kernel_rfl) | refine jbu rfl rfl rfl rfl ?_ | refine jo rfl rfl (index_at rfl rfl rfl rfl rfl rfl rfl rfl (Int.natCast_nonneg i) h) rfl rfl ?_ | refine jo rfl rfl (cat_str rfl (b := [58]) rfl hcl) rfl rfl ?_)
    rw [key]
    cases hc : decide (at' ls (i : Int) = s ++ [58]) with
    | true =>
      repeat (first | refine js rfl ?_ | (refine jdraw ?_ ?_; · kernel_rfl) | refine jbu rfl rfl rfl rfl ?_)
      have : rtarget ls s = (nl ls i, true) := by
        unfold rtarget
        rw [List.findIdx?_eq_some_iff_getElem.2 ⟨hi2, by rw [← hat]; exact hc, fun j hj => by
          have := hok j hj
          have hj2 : j < ls.length := by omega
          simpa [List.getD, hj2] using this⟩]
      rw [this]
      exact jr rfl rfl rfl rfl
    | false =>
      have hc := of_decide_eq_false hc
      have hok' : ∀ q, q < i + 1 → ls.getD q [] ≠ s ++ [58] := fun q hq => by
        by_cases hqi : q = i
        · subst hqi; rw [hgd]; exact hc
        · exact hok q (by omega)
      cases hr : rlab (at' ls (i : Int)) with
      | true =>
        rw [hr] at hlab hsu
        repeat (first | refine js rfl ?_ | (refine jdraw ?_ ?_; · kernel_rfl) | refine jbu rfl rfl rfl rfl ?_ | refine jv hlab rfl rfl rfl rfl rfl ?_)
        refine jnextI (i + 1) ⟨by omega, hok'⟩ ?_ rfl (by omega)
        show some _ = some _
        rw [hnx, hsu]; rfl
      | false =>
        rw [hr] at hlab hsu
        repeat (first | refine js rfl ?_ | (refine jdraw ?_ ?_; · kernel_rfl) | refine jbu rfl rfl rfl rfl ?_ | refine jv hlab rfl rfl rfl rfl rfl ?_)
        refine jnextI (i + 1) ⟨by omega, hok'⟩ ?_ rfl (by omega)
        show some _ = some _
        rw [hnx, hsu, hadd]; rfl
  · have h := of_decide_eq_false h
    rw [List.length_map] at h
    have hi2 : i = ls.length := by omega
    repeat (first | refine js rfl ?_ | (refine jdraw ?_ ?_; · kernel_rfl) | refine jbu rfl rfl rfl rfl ?_)
    have : rtarget ls s = (0, false) := by
      unfold rtarget
      rw [List.findIdx?_eq_none_iff.2 fun l hm => by
        obtain ⟨q, hq, rfl⟩ := List.getElem_of_mem hm
        have := hok q (by omega)
        simpa [List.getD, hq] using this]
    rw [this]
    exact jr rfl rfl rfl rfl
end Go.AL
