/-
  The reference's words on operands. No conditions.
-/
import Derived.Test.YtaoiflliakjhdaaDoorV4
set_option linter.unusedVariables false
set_option linter.unusedSimpArgs false
set_option maxRecDepth 100000
namespace Go.AL
open Go Go.Proofs
attribute [local irreducible] J

def ropN (s : Bs) : Int × Int := cond (rnum s).2 ((rnum s).1, 0) (0, 3)
def ropT (ls : List Bs) (s : Bs) : Int × Int := cond (rname s) (cond (rtarget ls s).2 ((rtarget ls s).1, 0) (0, 11)) (0, 3)
def rop (ls : List Bs) (k : UInt8) (s : Bs) : Int × Int := cond (decide (k = 114)) (rdR s) (cond (decide (k = 110)) (ropN s) (ropT ls s))
theorem rop_ok (ls : List Bs) (k : UInt8) (s : Bs) (hs : s.length ≤ 1000000) (hls : ls.length ≤ 1000000) (hl : ∀ l ∈ ls, l.length ≤ 1000000) :
    ACalls Tryd.prog 61 [.sl (ls.map sv), .v (.int .u8 k.toNat), sv s] [] (one (tup2 (rop ls k s)) []) := by
  have hn := rnum_ok s hs
  have hm := rname_ok s hs
  have ht := rtarget_ok ls s hs hls hl
  have e1 : ((k.toNat : Int) == 114) = decide (k = 114) := u8_eq k 114
  have e2 : ((k.toNat : Int) == 110) = decide (k = 110) := u8_eq k 110
  unfold rop
  cases h1 : decide (k = 114) with
  | true =>
    rw [h1] at e1
    simp only [cond_true]
    rcases s with _ | ⟨a, _ | ⟨b, _ | ⟨c, r⟩⟩⟩
    · refine jcalls Tryd.func61 rfl (by kernel_rfl) Tryd.ntmps61 rfl rfl (fun w0 β0 ext hβ => ?_)
      unfold sv S
      repeat (first | refine js rfl ?_ | (refine jdraw ?_ ?_; · kernel_rfl) | refine jbu rfl rfl rfl rfl ?_)
      rw [e1]
      repeat (first | refine js rfl ?_ | (refine jdraw ?_ ?_; · kernel_rfl) | refine jbu rfl rfl rfl rfl ?_)
      exact jr rfl rfl rfl rfl
    · refine jcalls Tryd.func61 rfl (by kernel_rfl) Tryd.ntmps61 rfl rfl (fun w0 β0 ext hβ => ?_)
      unfold sv S
      repeat (first | refine js rfl ?_ | (refine jdraw ?_ ?_; · kernel_rfl) | refine jbu rfl rfl rfl rfl ?_)
      rw [e1]
      repeat (first | refine js rfl ?_ | (refine jdraw ?_ ?_; · kernel_rfl) | refine jbu rfl rfl rfl rfl ?_)
      exact jr rfl rfl rfl rfl
    · have hb : (b.toNat : Int) ≤ 255 := by have := b.toNat_lt; omega
      have ha : ((a.toNat : Int) != 114) = !decide (a.toNat = 114) := by
        rw [Bool.eq_iff_iff]; simp; omega
      have h8 : inn b.toNat 48 55 = true → IntKind.i64.wrap (IntKind.u8.wrap ((b.toNat : Int) - 48)) = (b.toNat : Int) - 48 := fun hi => by
        unfold inn at hi
        simp only [Bool.and_eq_true, decide_eq_true_eq] at hi
        simp only [IntKind.wrap, IntKind.bits, IntKind.signed]
        simp
        omega
      have hin : inn b.toNat 48 55 = (!decide ((b.toNat : Int) < 48) && !decide ((b.toNat : Int) > 55)) := by
        unfold inn
        rw [Bool.eq_iff_iff]; simp
      unfold rdR
      simp only
      rw [hin] at h8 ⊢
      refine jcalls Tryd.func61 rfl (by kernel_rfl) Tryd.ntmps61 rfl rfl (fun w0 β0 ext hβ => ?_)
      unfold sv S
      repeat (first | refine js rfl ?_ | (refine jdraw ?_ ?_; · kernel_rfl) | refine jbu rfl rfl rfl rfl ?_)
      rw [e1]
      repeat (first | refine js rfl ?_ | (refine jdraw ?_ ?_; · kernel_rfl) | refine jbu rfl rfl rfl rfl ?_ | refine jo rfl rfl (index_str rfl rfl rfl rfl (by decide) (c := a) rfl) rfl rfl ?_ | refine jo rfl rfl (index_str rfl rfl rfl rfl (by decide) (c := b) rfl) rfl rfl ?_)
      rw [ha]
      generalize decide (a.toNat = 114) = b1 at *
      cases b1
      · repeat (first | refine js rfl ?_ | (refine jdraw ?_ ?_; · kernel_rfl) | refine jbu rfl rfl rfl rfl ?_)
        exact jr rfl rfl rfl rfl
      · repeat (first | refine js rfl ?_ | (refine jdraw ?_ ?_; · kernel_rfl) | refine jbu rfl rfl rfl rfl ?_ | refine jo rfl rfl (index_str rfl rfl rfl rfl (by decide) (c := a) rfl) rfl rfl ?_ | refine jo rfl rfl (index_str rfl rfl rfl rfl (by decide) (c := b) rfl) rfl rfl ?_)
        generalize hx : decide ((b.toNat : Int) < 48) = x at *
        cases x
        · repeat (first | refine js rfl ?_ | (refine jdraw ?_ ?_; · kernel_rfl) | refine jbu rfl rfl rfl rfl ?_ | refine jo rfl rfl (index_str rfl rfl rfl rfl (by decide) (c := a) rfl) rfl rfl ?_ | refine jo rfl rfl (index_str rfl rfl rfl rfl (by decide) (c := b) rfl) rfl rfl ?_)
          generalize hy : decide ((b.toNat : Int) > 55) = y at *
          cases y
          · repeat (first | refine js rfl ?_ | (refine jdraw ?_ ?_; · kernel_rfl) | refine jbu rfl rfl rfl rfl ?_ | refine jo rfl rfl (index_str rfl rfl rfl rfl (by decide) (c := b) rfl) rfl rfl ?_)
            rw [h8 rfl]
            exact jr rfl rfl rfl rfl
          · repeat (first | refine js rfl ?_ | (refine jdraw ?_ ?_; · kernel_rfl) | refine jbu rfl rfl rfl rfl ?_)
            exact jr rfl rfl rfl rfl
        · repeat (first | refine js rfl ?_ | (refine jdraw ?_ ?_; · kernel_rfl) | refine jbu rfl rfl rfl rfl ?_)
          exact jr rfl rfl rfl rfl
    · refine jcalls Tryd.func61 rfl (by kernel_rfl) Tryd.ntmps61 rfl rfl (fun w0 β0 ext hβ => ?_)
      unfold sv S
      repeat (first | refine js rfl ?_ | (refine jdraw ?_ ?_; · kernel_rfl) | refine jbu rfl rfl rfl rfl ?_)
      rw [e1]
      repeat (first | refine js rfl ?_ | (refine jdraw ?_ ?_; · kernel_rfl) | refine jbu rfl rfl rfl rfl ?_)
      exact jr rfl rfl rfl rfl
  | false =>
    rw [h1] at e1
    simp only [cond_false]
    cases h2 : decide (k = 110) with
    | true =>
      rw [h2] at e2
      simp only [cond_true]
      unfold ropN
      generalize rnum s = p at *
      obtain ⟨n, ok⟩ := p
      unfold sv iv bv at hn
      cases ok
      all_goals refine jcalls Tryd.func61 rfl (by kernel_rfl) Tryd.ntmps61 rfl rfl (fun w0 β0 ext hβ => ?_)
      all_goals (
        repeat (first | refine js rfl ?_ | (refine jdraw ?_ ?_; · kernel_rfl) | refine jbu rfl rfl rfl rfl ?_)
      )
      all_goals rw [e1]
      all_goals (
        repeat (first | refine js rfl ?_ | (refine jdraw ?_ ?_; · kernel_rfl) | refine jbu rfl rfl rfl rfl ?_)
      )
      all_goals rw [e2]
      all_goals (
        repeat (first | refine js rfl ?_ | (refine jdraw ?_ ?_; · kernel_rfl) | refine jbu rfl rfl rfl rfl ?_ | refine jv hn rfl rfl rfl rfl rfl ?_)
      )
      all_goals exact jr rfl rfl rfl rfl
    | false =>
      rw [h2] at e2
      simp only [cond_false]
      unfold ropT
      generalize rtarget ls s = p at *
      generalize rname s = nm at *
      obtain ⟨n, ok⟩ := p
      unfold sv iv bv at ht
      unfold sv bv at hm
      cases nm <;> cases ok
      all_goals refine jcalls Tryd.func61 rfl (by kernel_rfl) Tryd.ntmps61 rfl rfl (fun w0 β0 ext hβ => ?_)
      all_goals (
        repeat (first | refine js rfl ?_ | (refine jdraw ?_ ?_; · kernel_rfl) | refine jbu rfl rfl rfl rfl ?_)
      )
      all_goals rw [e1]
      all_goals (
        repeat (first | refine js rfl ?_ | (refine jdraw ?_ ?_; · kernel_rfl) | refine jbu rfl rfl rfl rfl ?_)
      )
      all_goals rw [e2]
      all_goals (
        repeat (first | refine js rfl ?_ | (refine jdraw ?_ ?_; · kernel_rfl) | refine jbu rfl rfl rfl rfl ?_ | refine jv hm rfl rfl rfl rfl rfl ?_ | refine jv ht rfl rfl rfl rfl rfl ?_)
      )
      all_goals exact jr rfl rfl rfl rfl
end Go.AL
