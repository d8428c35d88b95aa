/-
  The reference's words on names. No conditions.
-/
import Derived.Test.YtaoiflliakjhdaaDoorV1
set_option linter.unusedVariables false
set_option linter.unusedSimpArgs false
set_option maxRecDepth 100000
namespace Go.AL
open Go Go.Proofs
attribute [local irreducible] J

def azn (c : UInt8) : Bool := !((decide ((c.toNat : Int) < 97) || decide ((c.toNat : Int) > 122)) && (decide ((c.toNat : Int) < 48) || decide ((c.toNat : Int) > 57)))
def rname (s : Bs) : Bool := match s with
  | [] => false
  | c :: r => decide (r.length + 1 ≤ 12) && !decide ((c.toNat : Int) < 97) && !decide ((c.toNat : Int) > 122) && (c :: r).all azn
theorem rname_ok (s : Bs) (hs : s.length ≤ 1000000) : ACalls Tryd.prog 28 [sv s] [] (one (bv (rname s)) []) := by
  cases s with
  | nil =>
    unfold sv S
    refine jcalls Tryd.func28 rfl (by kernel_rfl) Tryd.ntmps28 rfl rfl (fun w0 β0 ext hβ => ?_)
    repeat (first | refine js rfl ?_ | (refine jdraw ?_ ?_; · kernel_rfl) | refine jbu rfl rfl rfl rfl ?_)
    exact jr rfl rfl rfl rfl
  | cons c r =>
    have hl : ByteArray.size ⟨(c :: r).toArray⟩ = r.length + 1 := rfl
    have e1 : decide ((ByteArray.size ⟨(c :: r).toArray⟩ : Int) < 1) = false := decide_eq_false (by rw [hl]; omega)
    have e2 : decide ((ByteArray.size ⟨(c :: r).toArray⟩ : Int) > 12) = !decide (r.length + 1 ≤ 12) := by rw [hl, Bool.eq_iff_iff]; simp; omega
    unfold rname
    refine jcalls Tryd.func28 rfl (by kernel_rfl) Tryd.ntmps28 rfl rfl (fun w0 β0 ext hβ => ?_)
    repeat (first | refine js rfl ?_ | (refine jdraw ?_ ?_; · kernel_rfl) | refine jbu rfl rfl rfl rfl ?_)
    rw [e1]
    repeat (first | refine js rfl ?_ | (refine jdraw ?_ ?_; · kernel_rfl) | refine jbu rfl rfl rfl rfl ?_)
    rw [e2]
    simp only
    generalize hb1 : decide (r.length + 1 ≤ 12) = b1
    cases b1
    · repeat (first | refine js rfl ?_ | (refine jdraw ?_ ?_; · kernel_rfl) | refine jbu rfl rfl rfl rfl ?_ | refine jo rfl rfl (index_str rfl rfl rfl rfl (by decide) (c := c) rfl) rfl rfl ?_)
      exact jr rfl rfl rfl rfl
    · repeat (first | refine js rfl ?_ | (refine jdraw ?_ ?_; · kernel_rfl) | refine jbu rfl rfl rfl rfl ?_ | refine jo rfl rfl (index_str rfl rfl rfl rfl (by decide) (c := c) rfl) rfl rfl ?_)
      cases hb2 : decide ((c.toNat : Int) < 97) with
      | true =>
        repeat (first | refine js rfl ?_ | (refine jdraw ?_ ?_; · kernel_rfl) | refine jbu rfl rfl rfl rfl ?_ | refine jo rfl rfl (index_str rfl rfl rfl rfl (by decide) (c := c) rfl) rfl rfl ?_)
        exact jr rfl rfl rfl rfl
      | false =>
        repeat (first | refine js rfl ?_ | (refine jdraw ?_ ?_; · kernel_rfl) | refine jbu rfl rfl rfl rfl ?_ | refine jo rfl rfl (index_str rfl rfl rfl rfl (by decide) (c := c) rfl) rfl rfl ?_)
        cases hb3 : decide ((c.toNat : Int) > 122) with
        | true =>
          repeat (first | refine js rfl ?_ | (refine jdraw ?_ ?_; · kernel_rfl) | refine jbu rfl rfl rfl rfl ?_)
          exact jr rfl rfl rfl rfl
        | false =>
          repeat (first | refine js rfl ?_ | (refine jdraw ?_ ?_; · kernel_rfl) | refine jbu rfl rfl rfl rfl ?_)
          refine jloopI (fun i : Nat => i ≤ (c :: r).length ∧ ∀ q, q < i → azn ((c :: r).getD q 0) = true) [0, 3] (fun i => [sv (c :: r), .v (.int .i64 (i : Int))]) (fun _ => []) (fun i => (c :: r).length - i) 0 ⟨Nat.zero_le _, fun q h => absurd h (by omega)⟩ rfl rfl (fun i hi => ?_)
          obtain ⟨hi, hok⟩ := hi
          have hlen : (c :: r).length ≤ 1000000 := hs
          generalize c :: r = s at *
          have hl2 : ByteArray.size ⟨s.toArray⟩ = s.length := rfl
          repeat (first | refine js rfl ?_ | (refine jdraw ?_ ?_; · kernel_rfl) | refine jbu rfl rfl rfl rfl ?_)
          refine jc rfl rfl rfl (fun h => ?_) (fun h => ?_)
          · have h := of_decide_eq_true h
            have hi2 : i < s.length := by rw [hl2] at h; omega
            obtain ⟨d, hd⟩ : ∃ d, s[i]? = some d := ⟨_, List.getElem?_eq_getElem hi2⟩
            have hdd : s.getD i 0 = d := by simp [List.getD, hd]
            have hdm : d ∈ s := List.mem_of_getElem? hd
            have hat := str_at hd
            have hnx := idx_next hi2 (by omega)
            have hgo : azn d = true → ∀ q, q < i + 1 → azn (s.getD q 0) = true := fun h0 q hq => by
              by_cases hqi : q = i
              · subst hqi; rw [hdd]; exact h0
              · exact hok q (by omega)
            have hno : azn d = false → s.all azn = false := fun h0 => by
              rw [List.all_eq_false]; exact ⟨d, hdm, by rw [h0]; simp⟩
            have hd255 := d.toNat_lt
            clear h hok e1 e2 hl hb1 hb2 hb3
            repeat' (first | refine js rfl ?_ | (refine jdraw ?_ ?_; · kernel_rfl) | refine jbu rfl rfl rfl rfl ?_ | refine jo rfl rfl (index_str rfl rfl rfl rfl (Int.natCast_nonneg i) hat) rfl rfl ?_ | refine jo rfl rfl (index_at rfl rfl rfl rfl rfl rfl rfl rfl (by omega) (by omega)) rfl rfl ?_ | (refine jc rfl rfl rfl (fun h => ?_) (fun h => ?_) <;> (try simp only [decide_eq_true_eq, decide_eq_false_iff_not, beq_iff_eq, beq_eq_false_iff_ne, bne_iff_ne, bne_eq_false_iff_eq, ne_eq] at h) <;> (try (exfalso; omega))) | (refine jg rfl rfl rfl rfl (fun h => ?_) (fun h => ?_) <;> (fail_if_success (exact absurd h (by decide))) <;> (try simp only [decide_eq_true_eq, decide_eq_false_iff_not, beq_iff_eq, beq_eq_false_iff_ne, bne_iff_ne, bne_eq_false_iff_eq, ne_eq] at h) <;> (try (exfalso; omega))))
            all_goals first
              | (refine jnextI (i + 1) ⟨by omega, hgo (by unfold azn; simp; omega)⟩ ?_ rfl (by omega)
                 show some _ = some _
                 rw [hnx])
              | (rw [hno (by unfold azn; simp; omega)]
                 exact jr rfl rfl rfl rfl)
          · have h := of_decide_eq_false h
            have hi2 : i = s.length := by rw [hl2] at h; omega
            have hall : s.all azn = true := by
              rw [List.all_eq_true]
              intro x hx
              obtain ⟨q, hq, rfl⟩ := List.getElem_of_mem hx
              have := hok q (by omega)
              simpa [List.getD, hq] using this
            rw [hall]
            repeat (first | refine js rfl ?_ | (refine jdraw ?_ ?_; · kernel_rfl) | refine jbu rfl rfl rfl rfl ?_)
            exact jr rfl rfl rfl rfl
end Go.AL
