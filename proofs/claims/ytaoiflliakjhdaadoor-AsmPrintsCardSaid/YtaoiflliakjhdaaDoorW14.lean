/-
  The reference's printing: Digits, Operand, May, Right, isTarget. No conditions.
  The reference's May and Right: the walks. No conditions.
  The reference's isTarget and Print, and the law AsmPrints: the walks. No conditions.
  The law AsmPrints: the walk. No conditions.
-/
import Derived.Test.YtaoiflliakjhdaaDoorW10
import Derived.Test.YtaoiflliakjhdaaDoorL9
set_option linter.unusedVariables false
set_option linter.unusedSimpArgs false
set_option maxRecDepth 100000
namespace Go.AL
open Go Go.Proofs
attribute [local irreducible] J

theorem dd_rec {n : Nat} (h : ¬ n < 10) : Lib.decDigits n = Lib.decDigits (n / 10) ++ Lib.decDigits (n % 10) := by
  rw [Lib.decDigits, dif_neg h, Lib.decDigits_one (by omega : n % 10 < 10)]
theorem digitsN_ok : ∀ n : Nat, n ≤ 1000000000 → ACalls Tryd.prog 45 [iv n] [] (one (sv (Lib.decDigits n)) []) := by
  intro n
  induction n using Nat.strongRecOn with
  | _ n ih =>
    intro hn
    have hlen := dd_len 9 n (by omega)
    have hneg : decide ((n : Int) < 0) = false := decide_eq_false (by omega)
    by_cases h : n < 10
    · have h10 : decide ((n : Int) < 10) = true := decide_eq_true (by omega)
      have hw : IntKind.u8.wrap (IntKind.i64.wrap (48 + (n : Int))) = ((UInt8.ofNat (48 + n)).toNat : Int) := by
        rw [(dgt_of n h).2, wrap_id (by omega) (by omega)]
        have : ∀ m : Nat, m < 10 → IntKind.u8.wrap (48 + (m : Int)) = ((48 + m : Nat) : Int) := by decide
        exact this n h
      rw [Lib.decDigits_one h]
      refine jcalls Tryd.func45 rfl (by kernel_rfl) Tryd.ntmps45 rfl rfl (fun w0 β0 ext hβ => ?_)
      repeat (first | refine js rfl ?_ | (refine jdraw ?_ ?_; · kernel_rfl) | refine jbu rfl rfl rfl rfl ?_)
      rw [hneg]
      repeat (first | refine js rfl ?_ | (refine jdraw ?_ ?_; · kernel_rfl) | refine jbu rfl rfl rfl rfl ?_)
      rw [h10]
      repeat (first | refine js rfl ?_ | (refine jdraw ?_ ?_; · kernel_rfl) | refine jbu rfl rfl rfl rfl ?_)
      rw [hw]
      repeat (first | refine js rfl ?_ | (refine jdraw ?_ ?_; · kernel_rfl) | refine jbu rfl rfl rfl rfl ?_ | refine jo rfl rfl (conv_byte (UInt8.ofNat (48 + n)) rfl rfl rfl rfl rfl rfl rfl rfl rfl) rfl rfl ?_)
      exact jr rfl rfl rfl rfl
    · have h10 : decide ((n : Int) < 10) = false := decide_eq_false (by omega)
      have i1 := ih (n / 10) (by omega) (by omega)
      have i2 := ih (n % 10) (by omega) (by omega)
      have q1 : IntKind.i64.wrap ((n : Int).tdiv 10) = ((n / 10 : Nat) : Int) := by
        rw [Int.tdiv_eq_ediv_of_nonneg (by omega), wrap_id (by omega) (by omega)]; omega
      have q2 : (n : Int).tmod 10 = ((n % 10 : Nat) : Int) := by
        rw [Int.tmod_eq_emod_of_nonneg (by omega)]; omega
      rw [dd_rec h] at hlen ⊢
      rw [List.length_append] at hlen
      generalize Lib.decDigits (n / 10) = d1 at *
      generalize Lib.decDigits (n % 10) = d2 at *
      have hc : d1.length + d2.length ≤ 1000000000 := by omega
      refine jcalls Tryd.func45 rfl (by kernel_rfl) Tryd.ntmps45 rfl rfl (fun w0 β0 ext hβ => ?_)
      repeat (first | refine js rfl ?_ | (refine jdraw ?_ ?_; · kernel_rfl) | refine jbu rfl rfl rfl rfl ?_)
      rw [hneg]
      repeat (first | refine js rfl ?_ | (refine jdraw ?_ ?_; · kernel_rfl) | refine jbu rfl rfl rfl rfl ?_)
      rw [h10]
      repeat (first | refine js rfl ?_ | (refine jdraw ?_ ?_; · kernel_rfl) | refine jbu rfl rfl rfl rfl ?_)
      rw [q1]
      repeat (first | refine js rfl ?_ | (refine jdraw ?_ ?_; · kernel_rfl) | refine jbu rfl rfl rfl rfl ?_ | refine jv i1 rfl rfl rfl rfl rfl ?_)
      rw [q2]
      repeat (first | refine js rfl ?_ | (refine jdraw ?_ ?_; · kernel_rfl) | refine jbu rfl rfl rfl rfl ?_ | refine jv i2 rfl rfl rfl rfl rfl ?_ | refine jo rfl rfl (cat_str rfl rfl hc) rfl rfl ?_)
      exact jr rfl rfl rfl rfl
theorem digits_ok (v : Int) (h : bd v) : ACalls Tryd.prog 45 [iv v] [] (one (sv (Lib.itoa v)) []) := by
  unfold bd at h
  by_cases hv : v < 0
  · obtain ⟨n, hn⟩ : ∃ n : Nat, 0 - v = n := ⟨(0 - v).toNat, by omega⟩
    have i1 := digitsN_ok n (by omega)
    have hneg : decide (v < 0) = true := decide_eq_true hv
    have hlen := dd_len 9 n (by omega)
    have e : Lib.itoa v = [45] ++ Lib.decDigits n := by
      unfold Lib.itoa
      rw [if_pos hv, show v.natAbs = n by omega]; rfl
    rw [e]
    have hw : IntKind.i64.wrap (0 - v) = (n : Int) := by rw [wrap_id (by omega) (by omega)]; exact hn
    have hc : ([45] : Bs).length + (Lib.decDigits n).length ≤ 1000000000 := by simp; omega
    refine jcalls Tryd.func45 rfl (by kernel_rfl) Tryd.ntmps45 rfl rfl (fun w0 β0 ext hβ => ?_)
    repeat (first | refine js rfl ?_ | (refine jdraw ?_ ?_; · kernel_rfl) | refine jbu rfl rfl rfl rfl ?_)
    rw [hneg]
    repeat (first | refine js rfl ?_ | (refine jdraw ?_ ?_; · kernel_rfl) | refine jbu rfl rfl rfl rfl ?_)
    rw [hw]
    repeat (first | refine js rfl ?_ | (refine jdraw ?_ ?_; · kernel_rfl) | refine jbu rfl rfl rfl rfl ?_ | refine jv i1 rfl rfl rfl rfl rfl ?_ | refine jo rfl rfl (cat_str (a := [45]) rfl rfl hc) rfl rfl ?_)
    exact jr rfl rfl rfl rfl
  · obtain ⟨n, rfl⟩ : ∃ n : Nat, v = n := ⟨v.toNat, by omega⟩
    rw [itoa_nat]
    exact digitsN_ok n (by omega)
def val3 (a b c : Int) : Nat → Int
  | 0 => a
  | 1 => b
  | _ => c
theorem operand_ok (op a b c : Int) (q : Nat) : ACalls Tryd.prog 48 [.agg [iv op, iv a, iv b, iv c], iv q] [] (one (iv (val3 a b c q)) []) := by
  match q with
  | 0 =>
    refine jcalls Tryd.func48 rfl (by kernel_rfl) Tryd.ntmps48 rfl rfl (fun w0 β0 ext hβ => ?_)
    repeat (first | refine js rfl ?_ | (refine jdraw ?_ ?_; · kernel_rfl) | refine jbu rfl rfl rfl rfl ?_)
    exact jr rfl rfl rfl rfl
  | 1 =>
    refine jcalls Tryd.func48 rfl (by kernel_rfl) Tryd.ntmps48 rfl rfl (fun w0 β0 ext hβ => ?_)
    repeat (first | refine js rfl ?_ | (refine jdraw ?_ ?_; · kernel_rfl) | refine jbu rfl rfl rfl rfl ?_)
    exact jr rfl rfl rfl rfl
  | q + 2 =>
    have h0 : (((q + 2 : Nat) : Int) == 0) = false := by simp; omega
    have h1 : (((q + 2 : Nat) : Int) == 1) = false := by simp; omega
    refine jcalls Tryd.func48 rfl (by kernel_rfl) Tryd.ntmps48 rfl rfl (fun w0 β0 ext hβ => ?_)
    repeat (first | refine js rfl ?_ | (refine jdraw ?_ ?_; · kernel_rfl) | refine jbu rfl rfl rfl rfl ?_)
    rw [h0]
    repeat (first | refine js rfl ?_ | (refine jdraw ?_ ?_; · kernel_rfl) | refine jbu rfl rfl rfl rfl ?_)
    rw [h1]
    repeat (first | refine js rfl ?_ | (refine jdraw ?_ ?_; · kernel_rfl) | refine jbu rfl rfl rfl rfl ?_)
    exact jr rfl rfl rfl rfl
theorem opName_bad (op : Int) (h : inn op 0 26 = false) : ACalls Tryd.prog 46 [iv op] [] (one (sv []) []) := by
  have hs : op < 0 ∨ op ≥ 27 := by
    unfold inn at h
    rcases Int.lt_or_le op 0 with h1 | h1
    · exact .inl h1
    · right
      simp at h; omega
  rcases hs with hs | hs
  · have h1 : decide (op < 0) = true := decide_eq_true hs
    refine jcalls Tryd.func46 rfl (by kernel_rfl) Tryd.ntmps46 rfl rfl (fun w0 β0 ext hβ => ?_)
    repeat (first | refine js rfl ?_ | (refine jdraw ?_ ?_; · kernel_rfl) | refine jbu rfl rfl rfl rfl ?_)
    rw [h1]
    repeat (first | refine js rfl ?_ | (refine jdraw ?_ ?_; · kernel_rfl) | refine jbu rfl rfl rfl rfl ?_)
    exact jr rfl rfl rfl rfl
  · have h1 : decide (op < 0) = false := decide_eq_false (by omega)
    have h2 : decide (op ≥ 27) = true := decide_eq_true hs
    refine jcalls Tryd.func46 rfl (by kernel_rfl) Tryd.ntmps46 rfl rfl (fun w0 β0 ext hβ => ?_)
    repeat (first | refine js rfl ?_ | (refine jdraw ?_ ?_; · kernel_rfl) | refine jbu rfl rfl rfl rfl ?_)
    rw [h1]
    repeat (first | refine js rfl ?_ | (refine jdraw ?_ ?_; · kernel_rfl) | refine jbu rfl rfl rfl rfl ?_)
    refine jc rfl rfl rfl (fun h => ?_) (fun h => absurd (show op ≥ 27 from hs) (of_decide_eq_false h))
    repeat (first | refine js rfl ?_ | (refine jdraw ?_ ?_; · kernel_rfl) | refine jbu rfl rfl rfl rfl ?_)
    exact jr rfl rfl rfl rfl
end Go.AL
namespace Go.AL
open Go Go.Proofs
attribute [local irreducible] J

theorem inn_not {v a b : Int} : inn v a b = (!decide (v < a) && !decide (v > b)) := by
  unfold inn
  rw [Bool.eq_iff_iff]
  simp
theorem nm_ne : ∀ k : Nat, k < 27 → (at' opN (k : Int)) ≠ [] := by decide
theorem rmay_ok (n : Nat) (op a b c : Int) (hn : n ≤ 1000000) : ACalls Tryd.prog 43 [.agg [iv op, iv a, iv b, iv c], iv n] [] (one (bv (mayI n ⟨op, a, b, c⟩)) []) := by
  unfold mayI
  simp only
  cases hop : inn op 0 26 with
  | false =>
    have h1 := opName_bad op hop
    simp only [Bool.false_and]
    refine jcalls Tryd.func43 rfl (by kernel_rfl) Tryd.ntmps43 rfl rfl (fun w0 β0 ext hβ => ?_)
    repeat (first | refine js rfl ?_ | (refine jdraw ?_ ?_; · kernel_rfl) | refine jbu rfl rfl rfl rfl ?_ | refine jv h1 rfl rfl rfl rfl rfl ?_)
    rw [beq_self_eq_true]
    repeat (first | refine js rfl ?_ | (refine jdraw ?_ ?_; · kernel_rfl) | refine jbu rfl rfl rfl rfl ?_)
    exact jr rfl rfl rfl rfl
  | true =>
    simp only [Bool.true_and]
    obtain ⟨ho1, ho2⟩ := inn_iff.1 hop
    obtain ⟨k, rfl⟩ : ∃ k : Nat, op = k := ⟨op.toNat, by omega⟩
    have hk : k < 27 := by omega
    have h1 := opName_ok k hk
    have h2 := opKind_ok k hk
    have hne := nm_ne k hk
    obtain ⟨hk3, hkc⟩ := kinds_ok k hk
    rw [opK_at k hk] at h2
    rw [show ((k : Int)).toNat = k from Int.toNat_natCast k]
    unfold kdO
    generalize at' opN (k : Int) = nmo at *
    have he := str_eq nmo []
    rw [decide_eq_false hne] at he
    generalize (at' opsT (k : Int)).2 = kd at *
    obtain ⟨rt, rf⟩ := mayR (n := n) (kd := kd) (a := a) (b := b) (c := c)
    generalize (mayV kd[0]? n a && (mayV kd[1]? n b && mayV kd[2]? n c)) = res at *
    refine jcalls Tryd.func43 rfl (by kernel_rfl) Tryd.ntmps43 rfl rfl (fun w0 β0 ext hβ => ?_)
    repeat (first | refine js rfl ?_ | (refine jdraw ?_ ?_; · kernel_rfl) | refine jbu rfl rfl rfl rfl ?_ | refine jv h1 rfl rfl rfl rfl rfl ?_)
    rw [show ((⟨nmo.toArray⟩ : ByteArray).toList == ({ data := #[] } : ByteArray).toList) = false from he]
    repeat (first | refine js rfl ?_ | (refine jdraw ?_ ?_; · kernel_rfl) | refine jbu rfl rfl rfl rfl ?_ | refine jv h2 rfl rfl rfl rfl rfl ?_)
    refine jloopI (fun q : Nat => q ≤ 3 ∧ ∀ p, p < q → mayV kd[p]? n ([a, b, c].getD p 0) = true) [2, 5, 6, 1] (fun q => [.ptr 0 0, sv kd, iv q, iv n])
      (fun _ => [.box 31 [iv (k : Int), iv a, iv b, iv c]]) (fun q => 3 - q) 0 ⟨by omega, fun p hp => absurd hp (by omega)⟩ rfl rfl (fun q hq => ?_)
    obtain ⟨hq, hok⟩ := hq
    have hstep : ∀ q, q < 3 → (∀ p, p < q → mayV kd[p]? n ([a, b, c].getD p 0) = true) → mayV kd[q]? n ([a, b, c].getD q 0) = true → q + 1 ≤ 3 ∧ ∀ p, p < q + 1 → mayV kd[p]? n ([a, b, c].getD p 0) = true := fun q hq h1 h2 => ⟨by omega, fun p hp => by
      by_cases e : p = q
      · rw [e]; exact h2
      · exact h1 p (by omega)⟩
    by_cases hq3 : q = 3
    · subst hq3
      rw [rt hok]
      repeat (first | refine js rfl ?_ | (refine jdraw ?_ ?_; · kernel_rfl) | refine jbu rfl rfl rfl rfl ?_)
      exact jr rfl rfl rfl rfl
    · have hql : q = 0 ∨ q = 1 ∨ q = 2 := by omega
      have hopd := operand_ok (k : Int) a b c q
      obtain ⟨v, hv⟩ : ∃ v, [a, b, c].getD q 0 = v := ⟨_, rfl⟩
      have hv2 : val3 a b c q = v := by
        rw [← hv]
        rcases hql with rfl | rfl | rfl <;> rfl
      rw [hv2] at hopd
      have rf' := rf q (by omega)
      have hst := hstep q (by omega) hok
      rw [hv] at rf' hst
      clear hv hv2
      by_cases hqk : q < kd.length
      · have hc : kd[q]? = some kd[q] := List.getElem?_eq_getElem hqk
        have hcb := str_idx hc
        have hcc := hkc kd[q] (List.getElem_mem hqk)
        have hd1 : decide ((q : Int) ≥ ((ByteArray.size ⟨kd.toArray⟩ : Nat) : Int)) = false := decide_eq_false (by rw [show ByteArray.size ⟨kd.toArray⟩ = kd.length from rfl]; omega)
        rw [hc] at rf' hst
        generalize kd[q] = ch at *
        rcases hcc with rfl | rfl | rfl
        · skip
          have e : mayV (some 114) n v = (!decide (v < 0) && !decide (v > 7)) := inn_not
          rw [e] at rf' hst
          cases g1 : decide (v < 0) with
          | true =>
            rw [rf' (by rw [g1]; rfl)]
            rcases hql with rfl | rfl | rfl
            all_goals (
              repeat (first | refine js rfl ?_ | (refine jdraw ?_ ?_; · kernel_rfl) | refine jbu rfl rfl rfl rfl ?_ | refine jv hopd rfl rfl rfl rfl rfl ?_ | refine jo rfl rfl (index_str rfl rfl rfl rfl (Int.natCast_nonneg _) hcb) rfl rfl ?_)
            )
            all_goals rw [hd1]
            all_goals (
              repeat (first | refine js rfl ?_ | (refine jdraw ?_ ?_; · kernel_rfl) | refine jbu rfl rfl rfl rfl ?_ | refine jv hopd rfl rfl rfl rfl rfl ?_ | refine jo rfl rfl (index_str rfl rfl rfl rfl (Int.natCast_nonneg _) hcb) rfl rfl ?_)
            )
            all_goals rw [g1]
            all_goals (
              repeat (first | refine js rfl ?_ | (refine jdraw ?_ ?_; · kernel_rfl) | refine jbu rfl rfl rfl rfl ?_ | refine jv hopd rfl rfl rfl rfl rfl ?_ | refine jo rfl rfl (index_str rfl rfl rfl rfl (Int.natCast_nonneg _) hcb) rfl rfl ?_)
            )
            all_goals exact jr rfl rfl rfl rfl
          | false =>
            cases g2 : decide (v > 7) with
            | true =>
              rw [rf' (by rw [g1, g2]; rfl)]
              rcases hql with rfl | rfl | rfl
              all_goals (
                repeat (first | refine js rfl ?_ | (refine jdraw ?_ ?_; · kernel_rfl) | refine jbu rfl rfl rfl rfl ?_ | refine jv hopd rfl rfl rfl rfl rfl ?_ | refine jo rfl rfl (index_str rfl rfl rfl rfl (Int.natCast_nonneg _) hcb) rfl rfl ?_)
              )
              all_goals rw [hd1]
              all_goals (
                repeat (first | refine js rfl ?_ | (refine jdraw ?_ ?_; · kernel_rfl) | refine jbu rfl rfl rfl rfl ?_ | refine jv hopd rfl rfl rfl rfl rfl ?_ | refine jo rfl rfl (index_str rfl rfl rfl rfl (Int.natCast_nonneg _) hcb) rfl rfl ?_)
              )
              all_goals rw [g1]
              all_goals (
                repeat (first | refine js rfl ?_ | (refine jdraw ?_ ?_; · kernel_rfl) | refine jbu rfl rfl rfl rfl ?_ | refine jv hopd rfl rfl rfl rfl rfl ?_ | refine jo rfl rfl (index_str rfl rfl rfl rfl (Int.natCast_nonneg _) hcb) rfl rfl ?_)
              )
              all_goals rw [g2]
              all_goals (
                repeat (first | refine js rfl ?_ | (refine jdraw ?_ ?_; · kernel_rfl) | refine jbu rfl rfl rfl rfl ?_ | refine jv hopd rfl rfl rfl rfl rfl ?_ | refine jo rfl rfl (index_str rfl rfl rfl rfl (Int.natCast_nonneg _) hcb) rfl rfl ?_)
              )
              all_goals exact jr rfl rfl rfl rfl
            | false =>
              rcases hql with rfl | rfl | rfl
              all_goals (
                repeat (first | refine js rfl ?_ | (refine jdraw ?_ ?_; · kernel_rfl) | refine jbu rfl rfl rfl rfl ?_ | refine jv hopd rfl rfl rfl rfl rfl ?_ | refine jo rfl rfl (index_str rfl rfl rfl rfl (Int.natCast_nonneg _) hcb) rfl rfl ?_)
              )
              all_goals rw [hd1]
              all_goals (
                repeat (first | refine js rfl ?_ | (refine jdraw ?_ ?_; · kernel_rfl) | refine jbu rfl rfl rfl rfl ?_ | refine jv hopd rfl rfl rfl rfl rfl ?_ | refine jo rfl rfl (index_str rfl rfl rfl rfl (Int.natCast_nonneg _) hcb) rfl rfl ?_)
              )
              all_goals rw [g1]
              all_goals (
                repeat (first | refine js rfl ?_ | (refine jdraw ?_ ?_; · kernel_rfl) | refine jbu rfl rfl rfl rfl ?_ | refine jv hopd rfl rfl rfl rfl rfl ?_ | refine jo rfl rfl (index_str rfl rfl rfl rfl (Int.natCast_nonneg _) hcb) rfl rfl ?_)
              )
              all_goals rw [g2]
              all_goals (
                repeat (first | refine js rfl ?_ | (refine jdraw ?_ ?_; · kernel_rfl) | refine jbu rfl rfl rfl rfl ?_ | refine jv hopd rfl rfl rfl rfl rfl ?_ | refine jo rfl rfl (index_str rfl rfl rfl rfl (Int.natCast_nonneg _) hcb) rfl rfl ?_)
              )
              all_goals refine jnextI (_ + 1) (hst (by rw [g1, g2]; rfl)) rfl rfl (by omega)
        · skip
          have e : mayV (some 110) n v = (!decide (v < -1000000000) && !decide (v > 1000000000)) := inn_not
          rw [e] at rf' hst
          cases g1 : decide (v < -1000000000) with
          | true =>
            rw [rf' (by rw [g1]; rfl)]
            rcases hql with rfl | rfl | rfl
            all_goals (
              repeat (first | refine js rfl ?_ | (refine jdraw ?_ ?_; · kernel_rfl) | refine jbu rfl rfl rfl rfl ?_ | refine jv hopd rfl rfl rfl rfl rfl ?_ | refine jo rfl rfl (index_str rfl rfl rfl rfl (Int.natCast_nonneg _) hcb) rfl rfl ?_)
            )
            all_goals rw [hd1]
            all_goals (
              repeat (first | refine js rfl ?_ | (refine jdraw ?_ ?_; · kernel_rfl) | refine jbu rfl rfl rfl rfl ?_ | refine jv hopd rfl rfl rfl rfl rfl ?_ | refine jo rfl rfl (index_str rfl rfl rfl rfl (Int.natCast_nonneg _) hcb) rfl rfl ?_)
            )
            all_goals rw [g1]
            all_goals (
              repeat (first | refine js rfl ?_ | (refine jdraw ?_ ?_; · kernel_rfl) | refine jbu rfl rfl rfl rfl ?_ | refine jv hopd rfl rfl rfl rfl rfl ?_ | refine jo rfl rfl (index_str rfl rfl rfl rfl (Int.natCast_nonneg _) hcb) rfl rfl ?_)
            )
            all_goals exact jr rfl rfl rfl rfl
          | false =>
            cases g2 : decide (v > 1000000000) with
            | true =>
              rw [rf' (by rw [g1, g2]; rfl)]
              rcases hql with rfl | rfl | rfl
              all_goals (
                repeat (first | refine js rfl ?_ | (refine jdraw ?_ ?_; · kernel_rfl) | refine jbu rfl rfl rfl rfl ?_ | refine jv hopd rfl rfl rfl rfl rfl ?_ | refine jo rfl rfl (index_str rfl rfl rfl rfl (Int.natCast_nonneg _) hcb) rfl rfl ?_)
              )
              all_goals rw [hd1]
              all_goals (
                repeat (first | refine js rfl ?_ | (refine jdraw ?_ ?_; · kernel_rfl) | refine jbu rfl rfl rfl rfl ?_ | refine jv hopd rfl rfl rfl rfl rfl ?_ | refine jo rfl rfl (index_str rfl rfl rfl rfl (Int.natCast_nonneg _) hcb) rfl rfl ?_)
              )
              all_goals rw [g1]
              all_goals (
                repeat (first | refine js rfl ?_ | (refine jdraw ?_ ?_; · kernel_rfl) | refine jbu rfl rfl rfl rfl ?_ | refine jv hopd rfl rfl rfl rfl rfl ?_ | refine jo rfl rfl (index_str rfl rfl rfl rfl (Int.natCast_nonneg _) hcb) rfl rfl ?_)
              )
              all_goals rw [g2]
              all_goals (
                repeat (first | refine js rfl ?_ | (refine jdraw ?_ ?_; · kernel_rfl) | refine jbu rfl rfl rfl rfl ?_ | refine jv hopd rfl rfl rfl rfl rfl ?_ | refine jo rfl rfl (index_str rfl rfl rfl rfl (Int.natCast_nonneg _) hcb) rfl rfl ?_)
              )
              all_goals exact jr rfl rfl rfl rfl
            | false =>
              rcases hql with rfl | rfl | rfl
              all_goals (
                repeat (first | refine js rfl ?_ | (refine jdraw ?_ ?_; · kernel_rfl) | refine jbu rfl rfl rfl rfl ?_ | refine jv hopd rfl rfl rfl rfl rfl ?_ | refine jo rfl rfl (index_str rfl rfl rfl rfl (Int.natCast_nonneg _) hcb) rfl rfl ?_)
              )
              all_goals rw [hd1]
              all_goals (
                repeat (first | refine js rfl ?_ | (refine jdraw ?_ ?_; · kernel_rfl) | refine jbu rfl rfl rfl rfl ?_ | refine jv hopd rfl rfl rfl rfl rfl ?_ | refine jo rfl rfl (index_str rfl rfl rfl rfl (Int.natCast_nonneg _) hcb) rfl rfl ?_)
              )
              all_goals rw [g1]
              all_goals (
                repeat (first | refine js rfl ?_ | (refine jdraw ?_ ?_; · kernel_rfl) | refine jbu rfl rfl rfl rfl ?_ | refine jv hopd rfl rfl rfl rfl rfl ?_ | refine jo rfl rfl (index_str rfl rfl rfl rfl (Int.natCast_nonneg _) hcb) rfl rfl ?_)
              )
              all_goals rw [g2]
              all_goals (
                repeat (first | refine js rfl ?_ | (refine jdraw ?_ ?_; · kernel_rfl) | refine jbu rfl rfl rfl rfl ?_ | refine jv hopd rfl rfl rfl rfl rfl ?_ | refine jo rfl rfl (index_str rfl rfl rfl rfl (Int.natCast_nonneg _) hcb) rfl rfl ?_)
              )
              all_goals refine jnextI (_ + 1) (hst (by rw [g1, g2]; rfl)) rfl rfl (by omega)
        · skip
          have e : mayV (some 116) n v = (!decide (v < 0) && !decide (v > (n : Int))) := inn_not
          rw [e] at rf' hst
          cases g1 : decide (v < 0) with
          | true =>
            rw [rf' (by rw [g1]; rfl)]
            rcases hql with rfl | rfl | rfl
            all_goals (
              repeat (first | refine js rfl ?_ | (refine jdraw ?_ ?_; · kernel_rfl) | refine jbu rfl rfl rfl rfl ?_ | refine jv hopd rfl rfl rfl rfl rfl ?_ | refine jo rfl rfl (index_str rfl rfl rfl rfl (Int.natCast_nonneg _) hcb) rfl rfl ?_)
            )
            all_goals rw [hd1]
            all_goals (
              repeat (first | refine js rfl ?_ | (refine jdraw ?_ ?_; · kernel_rfl) | refine jbu rfl rfl rfl rfl ?_ | refine jv hopd rfl rfl rfl rfl rfl ?_ | refine jo rfl rfl (index_str rfl rfl rfl rfl (Int.natCast_nonneg _) hcb) rfl rfl ?_)
            )
            all_goals rw [g1]
            all_goals (
              repeat (first | refine js rfl ?_ | (refine jdraw ?_ ?_; · kernel_rfl) | refine jbu rfl rfl rfl rfl ?_ | refine jv hopd rfl rfl rfl rfl rfl ?_ | refine jo rfl rfl (index_str rfl rfl rfl rfl (Int.natCast_nonneg _) hcb) rfl rfl ?_)
            )
            all_goals exact jr rfl rfl rfl rfl
          | false =>
            cases g2 : decide (v > (n : Int)) with
            | true =>
              rw [rf' (by rw [g1, g2]; rfl)]
              rcases hql with rfl | rfl | rfl
              all_goals (
                repeat (first | refine js rfl ?_ | (refine jdraw ?_ ?_; · kernel_rfl) | refine jbu rfl rfl rfl rfl ?_ | refine jv hopd rfl rfl rfl rfl rfl ?_ | refine jo rfl rfl (index_str rfl rfl rfl rfl (Int.natCast_nonneg _) hcb) rfl rfl ?_)
              )
              all_goals rw [hd1]
              all_goals (
                repeat (first | refine js rfl ?_ | (refine jdraw ?_ ?_; · kernel_rfl) | refine jbu rfl rfl rfl rfl ?_ | refine jv hopd rfl rfl rfl rfl rfl ?_ | refine jo rfl rfl (index_str rfl rfl rfl rfl (Int.natCast_nonneg _) hcb) rfl rfl ?_)
              )
              all_goals rw [g1]
              all_goals (
                repeat (first | refine js rfl ?_ | (refine jdraw ?_ ?_; · kernel_rfl) | refine jbu rfl rfl rfl rfl ?_ | refine jv hopd rfl rfl rfl rfl rfl ?_ | refine jo rfl rfl (index_str rfl rfl rfl rfl (Int.natCast_nonneg _) hcb) rfl rfl ?_)
              )
              all_goals rw [g2]
              all_goals (
                repeat (first | refine js rfl ?_ | (refine jdraw ?_ ?_; · kernel_rfl) | refine jbu rfl rfl rfl rfl ?_ | refine jv hopd rfl rfl rfl rfl rfl ?_ | refine jo rfl rfl (index_str rfl rfl rfl rfl (Int.natCast_nonneg _) hcb) rfl rfl ?_)
              )
              all_goals exact jr rfl rfl rfl rfl
            | false =>
              rcases hql with rfl | rfl | rfl
              all_goals (
                repeat (first | refine js rfl ?_ | (refine jdraw ?_ ?_; · kernel_rfl) | refine jbu rfl rfl rfl rfl ?_ | refine jv hopd rfl rfl rfl rfl rfl ?_ | refine jo rfl rfl (index_str rfl rfl rfl rfl (Int.natCast_nonneg _) hcb) rfl rfl ?_)
              )
              all_goals rw [hd1]
              all_goals (
                repeat (first | refine js rfl ?_ | (refine jdraw ?_ ?_; · kernel_rfl) | refine jbu rfl rfl rfl rfl ?_ | refine jv hopd rfl rfl rfl rfl rfl ?_ | refine jo rfl rfl (index_str rfl rfl rfl rfl (Int.natCast_nonneg _) hcb) rfl rfl ?_)
              )
              all_goals rw [g1]
              all_goals (
                repeat (first | refine js rfl ?_ | (refine jdraw ?_ ?_; · kernel_rfl) | refine jbu rfl rfl rfl rfl ?_ | refine jv hopd rfl rfl rfl rfl rfl ?_ | refine jo rfl rfl (index_str rfl rfl rfl rfl (Int.natCast_nonneg _) hcb) rfl rfl ?_)
              )
              all_goals rw [g2]
              all_goals (
                repeat (first | refine js rfl ?_ | (refine jdraw ?_ ?_; · kernel_rfl) | refine jbu rfl rfl rfl rfl ?_ | refine jv hopd rfl rfl rfl rfl rfl ?_ | refine jo rfl rfl (index_str rfl rfl rfl rfl (Int.natCast_nonneg _) hcb) rfl rfl ?_)
              )
              all_goals refine jnextI (_ + 1) (hst (by rw [g1, g2]; rfl)) rfl rfl (by omega)
      · have hc : kd[q]? = none := List.getElem?_eq_none (by omega)
        have hd1 : decide ((q : Int) ≥ ((ByteArray.size ⟨kd.toArray⟩ : Nat) : Int)) = true := decide_eq_true (by rw [show ByteArray.size ⟨kd.toArray⟩ = kd.length from rfl]; omega)
        rw [hc] at rf' hst
        have e : mayV none n v = !(v != 0) := by
          show inn v 0 0 = _
          rw [Bool.eq_iff_iff]
          unfold inn
          simp
          omega
        rw [e] at rf' hst
        cases g1 : (v != 0) with
        | true =>
          rw [rf' (by rw [g1]; rfl)]
          rcases hql with rfl | rfl | rfl
          all_goals (
            repeat (first | refine js rfl ?_ | (refine jdraw ?_ ?_; · kernel_rfl) | refine jbu rfl rfl rfl rfl ?_ | refine jv hopd rfl rfl rfl rfl rfl ?_)
          )
          all_goals rw [hd1]
          all_goals (
            repeat (first | refine js rfl ?_ | (refine jdraw ?_ ?_; · kernel_rfl) | refine jbu rfl rfl rfl rfl ?_)
          )
          all_goals rw [g1]
          all_goals (
            repeat (first | refine js rfl ?_ | (refine jdraw ?_ ?_; · kernel_rfl) | refine jbu rfl rfl rfl rfl ?_)
          )
          all_goals exact jr rfl rfl rfl rfl
        | false =>
          rcases hql with rfl | rfl | rfl
          all_goals (
            repeat (first | refine js rfl ?_ | (refine jdraw ?_ ?_; · kernel_rfl) | refine jbu rfl rfl rfl rfl ?_ | refine jv hopd rfl rfl rfl rfl rfl ?_)
          )
          all_goals rw [hd1]
          all_goals (
            repeat (first | refine js rfl ?_ | (refine jdraw ?_ ?_; · kernel_rfl) | refine jbu rfl rfl rfl rfl ?_)
          )
          all_goals rw [g1]
          all_goals (
            repeat (first | refine js rfl ?_ | (refine jdraw ?_ ?_; · kernel_rfl) | refine jbu rfl rfl rfl rfl ?_)
          )
          all_goals refine jnextI (_ + 1) (hst (by rw [g1]; rfl)) rfl rfl (by omega)
theorem rright_ok (l : List Ins) (hl : l.length ≤ 1000000) : ACalls Tryd.prog 18 [encIs l] [] (one (bv (rightC l)) []) := by
  have hm : ∀ op a b c, ACalls Tryd.prog 43 [.agg [iv op, iv a, iv b, iv c], iv (l.map encIns).length] [] (one (bv (mayI l.length ⟨op, a, b, c⟩)) []) := fun op a b c => by
    rw [List.length_map]; exact rmay_ok l.length op a b c hl
  unfold rightC
  unfold encIs
  cases hb : decide (l.length ≤ 1000) with
  | false =>
    have hd : decide (((l.map encIns).length : Int) > 1000) = true := by
      rw [List.length_map]
      have := of_decide_eq_false hb
      exact decide_eq_true (by omega)
    refine jcalls Tryd.func18 rfl (by kernel_rfl) Tryd.ntmps18 rfl rfl (fun w0 β0 ext hβ => ?_)
    repeat (first | refine js rfl ?_ | (refine jdraw ?_ ?_; · kernel_rfl) | refine jbu rfl rfl rfl rfl ?_)
    rw [hd]
    repeat (first | refine js rfl ?_ | (refine jdraw ?_ ?_; · kernel_rfl) | refine jbu rfl rfl rfl rfl ?_)
    exact jr rfl rfl rfl rfl
  | true =>
    have hd : decide (((l.map encIns).length : Int) > 1000) = false := by
      rw [List.length_map]
      have := of_decide_eq_true hb
      exact decide_eq_false (by omega)
    simp only [Bool.true_and]
    refine jcalls Tryd.func18 rfl (by kernel_rfl) Tryd.ntmps18 rfl rfl (fun w0 β0 ext hβ => ?_)
    repeat (first | refine js rfl ?_ | (refine jdraw ?_ ?_; · kernel_rfl) | refine jbu rfl rfl rfl rfl ?_)
    rw [hd]
    repeat (first | refine js rfl ?_ | (refine jdraw ?_ ?_; · kernel_rfl) | refine jbu rfl rfl rfl rfl ?_)
    refine jloop 0 (fun k : Nat => k ≤ l.length ∧ ∀ q, q < k → mayI l.length (at' l (q : Int)) = true) [0, 8, 9, 10] (fun k => [.sl (l.map encIns), .sl (l.map encIns), .v (.int .i64 ((l.map encIns).length : Int)), .v (.int .i64 (k : Int))])
      (fun _ => []) (fun k => l.length - k) 0 (by rw [hβ]; decide) ⟨Nat.zero_le _, fun q h => absurd h (by omega)⟩ rfl rfl (fun k hk => ?_)
    obtain ⟨hk, hok⟩ := hk
    repeat (first | refine js rfl ?_ | (refine jdraw ?_ ?_; · kernel_rfl) | refine jbu rfl rfl rfl rfl ?_)
    refine jc rfl rfl rfl (fun h => ?_) (fun h => ?_)
    · have h := of_decide_eq_true h
      rw [List.length_map] at h
      have hk2 : k < l.length := by omega
      have hnx := idx_next hk2 (by omega)
      repeat (first | refine js rfl ?_ | (refine jdraw ?_ ?_; · kernel_rfl) | refine jbu rfl rfl rfl rfl ?_ | refine jo rfl rfl (index_at rfl rfl rfl rfl rfl rfl rfl rfl (Int.natCast_nonneg k) h) rfl rfl ?_)
      have hmay : ∀ i, at' l (k : Int) = i → mayI l.length (at' l (k : Int)) = mayI l.length i := fun i e => by rw [e]
      generalize hat : at' l (k : Int) = i at *
      obtain ⟨op, a, b, c⟩ := i
      have hmi := hm op a b c
      cases hb2 : mayI l.length ⟨op, a, b, c⟩ with
      | false =>
        rw [hb2] at hmi
        have : l.all (mayI l.length) = false := by
          rw [List.all_eq_false]
          refine ⟨l[k], List.getElem_mem hk2, ?_⟩
          rw [← at_nat l k hk2, hat, hb2]; simp
        rw [this]
        repeat (first | refine js rfl ?_ | (refine jdraw ?_ ?_; · kernel_rfl) | refine jbu rfl rfl rfl rfl ?_ | refine jv hmi rfl rfl rfl rfl rfl ?_)
        exact jr rfl rfl rfl rfl
      | true =>
        rw [hb2] at hmi
        repeat (first | refine js rfl ?_ | (refine jdraw ?_ ?_; · kernel_rfl) | refine jbu rfl rfl rfl rfl ?_ | refine jv hmi rfl rfl rfl rfl rfl ?_)
        refine jnext (k + 1) ⟨by omega, fun q hq => ?_⟩ (by omega) rfl rfl rfl ?_ ?_
        · by_cases e : q = k
          · rw [e, hat]; exact hb2
          · exact hok q (by omega)
        · rw [hnx]
        · rfl
    · have h := of_decide_eq_false h
      rw [List.length_map] at h
      have : l.all (mayI l.length) = true := by
        rw [List.all_eq_true]
        intro x hx
        obtain ⟨q, hq, rfl⟩ := List.getElem_of_mem hx
        have := hok q (by omega)
        rw [at_nat l q hq] at this
        exact this
      rw [this]
      repeat (first | refine js rfl ?_ | (refine jdraw ?_ ?_; · kernel_rfl) | refine jbu rfl rfl rfl rfl ?_)
      exact jr rfl rfl rfl rfl
end Go.AL
namespace Go.AL
open Go Go.Proofs
attribute [local irreducible] J

/-- how far an instruction's operands have been looked through -/
def hasTo (kd : Bs) (vs : List Int) (n : Int) (q : Nat) : Bool := ((List.zip kd vs).take q).any fun p => decide (p.1 = 116) && decide (p.2 = n)
theorem hasTo_succ {kd : Bs} {vs : List Int} {n : Int} {q : Nat} {c : UInt8} {v : Int} (hc : kd[q]? = some c) (hv : vs[q]? = some v) : hasTo kd vs n (q + 1) = (hasTo kd vs n q || (decide (c = 116) && decide (v = n))) := by
  unfold hasTo
  have : (List.zip kd vs)[q]? = some (c, v) := by rw [List.getElem?_zip_eq_some]; exact ⟨hc, hv⟩
  obtain ⟨hq, e⟩ := List.getElem?_eq_some_iff.1 this
  rw [List.take_succ_eq_append_getElem hq, e, List.any_append]
  simp
theorem hasTo_full {kd : Bs} {vs : List Int} {n : Int} {q : Nat} (h : kd.length ≤ q) : hasTo kd vs n q = (List.zip kd vs).any fun p => decide (p.1 = 116) && decide (p.2 = n) := by
  unfold hasTo
  rw [List.take_of_length_le (by rw [List.length_zip]; omega)]
theorem hasTo_mono {kd : Bs} {vs : List Int} {n : Int} {q : Nat} (h : hasTo kd vs n q = true) : ((List.zip kd vs).any fun p => decide (p.1 = 116) && decide (p.2 = n)) = true := by
  unfold hasTo at h
  rw [List.any_eq_true] at h ⊢
  obtain ⟨x, hx, h⟩ := h
  exact ⟨x, List.take_subset _ _ hx, h⟩
set_option maxHeartbeats 1600000 in
theorem isTarget_ok (l : List Ins) (n : Int) (hl : l.length ≤ 1000000) (hr : ∀ i ∈ l, 0 ≤ i.op ∧ i.op < 27) : ACalls Tryd.prog 44 [encIs l, iv n] [] (one (bv (isT l n)) []) := by
  unfold encIs
  refine jcalls Tryd.func44 rfl (by kernel_rfl) Tryd.ntmps44 rfl rfl (fun w0 β0 ext hβ => ?_)
  repeat (first | refine js rfl ?_ | (refine jdraw ?_ ?_; · kernel_rfl) | refine jbu rfl rfl rfl rfl ?_)
  refine jloop 0 (fun k : Nat => k ≤ l.length ∧ (l.take k).any (hasT · n) = false) [0, 9, 10, 11, 1] (fun k => [.sl (l.map encIns), .sl (l.map encIns), .v (.int .i64 ((l.map encIns).length : Int)), .v (.int .i64 (k : Int)), iv n])
    (fun _ => []) (fun k => l.length - k) 0 (by rw [hβ]; decide) ⟨Nat.zero_le _, rfl⟩ rfl rfl (fun k hk => ?_)
  obtain ⟨hk, hok⟩ := hk
  repeat (first | refine js rfl ?_ | (refine jdraw ?_ ?_; · kernel_rfl) | refine jbu rfl rfl rfl rfl ?_)
  refine jc rfl rfl rfl (fun h => ?_) (fun h => ?_)
  · have h := of_decide_eq_true h
    rw [List.length_map] at h
    have hk2 : k < l.length := by omega
    have hnx := idx_next hk2 (by omega)
    have hat := at_nat l k hk2
    have hop2 := hr l[k] (List.getElem_mem hk2)
    have htk : (l.take (k + 1)).any (hasT · n) = hasT l[k] n := by
      rw [List.take_succ_eq_append_getElem hk2, List.any_append, hok]; simp
    have hyes : hasT l[k] n = true → isT l n = true := fun e => by
      unfold isT
      rw [List.any_eq_true]
      exact ⟨_, List.getElem_mem hk2, e⟩
    repeat (first | refine js rfl ?_ | (refine jdraw ?_ ?_; · kernel_rfl) | refine jbu rfl rfl rfl rfl ?_ | refine jo rfl rfl (index_at rfl rfl rfl rfl rfl rfl rfl rfl (Int.natCast_nonneg k) h) rfl rfl ?_)
    rw [hat]
    generalize l[k] = i at *
    obtain ⟨op, a, b, c⟩ := i
    obtain ⟨o, rfl⟩ : ∃ o : Nat, op = o := ⟨op.toNat, by simp only at hop2; omega⟩
    have ho : o < 27 := by simp only at hop2; omega
    have h2 := opKind_ok o ho
    rw [opK_at o ho] at h2
    obtain ⟨hk3, hkc⟩ := kinds_ok o ho
    have hT : hasT ⟨(o : Int), a, b, c⟩ n = (List.zip (kdO o) [a, b, c]).any fun p => decide (p.1 = 116) && decide (p.2 = n) := by
      unfold hasT vals3
      rw [show (((o : Int))).toNat = o from Int.toNat_natCast o]
    rw [show (at' opsT (o : Int)).2 = kdO o from rfl] at h2 hk3 hkc
    rw [hT] at htk hyes
    have hfull := fun q (hq : (kdO o).length ≤ q) => hasTo_full (n := n) (kd := kdO o) (vs := [a, b, c]) hq
    have hmono := fun q => @hasTo_mono (kdO o) [a, b, c] n q
    have hsuc := @hasTo_succ (kdO o) [a, b, c] n
    generalize kdO o = kd at *
    repeat (first | refine js rfl ?_ | (refine jdraw ?_ ?_; · kernel_rfl) | refine jbu rfl rfl rfl rfl ?_ | refine jv h2 rfl rfl rfl rfl rfl ?_)
    refine jloopI (fun q : Nat => q ≤ kd.length ∧ hasTo kd [a, b, c] n q = false) [0, 9, 10, 11, 1, 6, 7, 8] (fun q => [.sl (l.map encIns), .sl (l.map encIns), .v (.int .i64 ((l.map encIns).length : Int)), .v (.int .i64 (k : Int)), iv n, .ptr 0 0, sv kd, iv q])
      (fun _ => [.box 31 [iv (o : Int), iv a, iv b, iv c]]) (fun q => kd.length - q) 0 ⟨by omega, rfl⟩ rfl rfl (fun q hq => ?_)
    obtain ⟨hq, hqf⟩ := hq
    by_cases hqk : q < kd.length
    · have hd1 : decide ((q : Int) < ((ByteArray.size ⟨kd.toArray⟩ : Nat) : Int)) = true := decide_eq_true (by rw [show ByteArray.size ⟨kd.toArray⟩ = kd.length from rfl]; omega)
      have hc : kd[q]? = some kd[q] := List.getElem?_eq_getElem hqk
      have hcb := str_idx hc
      obtain ⟨v, hv⟩ : ∃ v, [a, b, c][q]? = some v := ⟨_, List.getElem?_eq_getElem (by simp; omega)⟩
      have hs2 := hsuc hc hv
      have hopd := operand_ok (o : Int) a b c q
      have hql : q = 0 ∨ q = 1 ∨ q = 2 := by omega
      have hv2 : val3 a b c q = v := by
        rcases hql with rfl | rfl | rfl <;> (simp at hv; exact hv)
      rw [hv2] at hopd
      clear hv hv2
      rw [hqf, Bool.false_or] at hs2
      have hqn := idx_next hqk (by omega)
      have hcc := hkc kd[q] (List.getElem_mem hqk)
      generalize kd[q] = ch at *
      repeat (first | refine js rfl ?_ | (refine jdraw ?_ ?_; · kernel_rfl) | refine jbu rfl rfl rfl rfl ?_)
      rw [hd1]
      repeat (first | refine js rfl ?_ | (refine jdraw ?_ ?_; · kernel_rfl) | refine jbu rfl rfl rfl rfl ?_ | refine jo rfl rfl (index_str rfl rfl rfl rfl (Int.natCast_nonneg _) hcb) rfl rfl ?_)
      rcases hcc with rfl | rfl | rfl
      · repeat (first | refine js rfl ?_ | (refine jdraw ?_ ?_; · kernel_rfl) | refine jbu rfl rfl rfl rfl ?_)
        refine jnextI (q + 1) ⟨by omega, by rw [hs2]; rfl⟩ ?_ rfl (by omega)
        show some _ = some _
        rw [hqn]; rfl
      · repeat (first | refine js rfl ?_ | (refine jdraw ?_ ?_; · kernel_rfl) | refine jbu rfl rfl rfl rfl ?_)
        refine jnextI (q + 1) ⟨by omega, by rw [hs2]; rfl⟩ ?_ rfl (by omega)
        show some _ = some _
        rw [hqn]; rfl
      · have he : (v == n) = decide (v = n) := by
          by_cases e : v = n
          · simp [e]
          · simp [e]
        cases hb : decide (v = n) with
        | true =>
          rw [hb] at he
          repeat (first | refine js rfl ?_ | (refine jdraw ?_ ?_; · kernel_rfl) | refine jbu rfl rfl rfl rfl ?_ | refine jv hopd rfl rfl rfl rfl rfl ?_)
          rw [he]
          repeat (first | refine js rfl ?_ | (refine jdraw ?_ ?_; · kernel_rfl) | refine jbu rfl rfl rfl rfl ?_)
          rw [hyes (hmono (q + 1) (by rw [hs2, hb]; rfl))]
          exact jr rfl rfl rfl rfl
        | false =>
          rw [hb] at he
          repeat (first | refine js rfl ?_ | (refine jdraw ?_ ?_; · kernel_rfl) | refine jbu rfl rfl rfl rfl ?_ | refine jv hopd rfl rfl rfl rfl rfl ?_)
          rw [he]
          repeat (first | refine js rfl ?_ | (refine jdraw ?_ ?_; · kernel_rfl) | refine jbu rfl rfl rfl rfl ?_)
          refine jnextI (q + 1) ⟨by omega, by rw [hs2, hb]; rfl⟩ ?_ rfl (by omega)
          show some _ = some _
          rw [hqn]; rfl
    · have hd1 : decide ((q : Int) < ((ByteArray.size ⟨kd.toArray⟩ : Nat) : Int)) = false := decide_eq_false (by rw [show ByteArray.size ⟨kd.toArray⟩ = kd.length from rfl]; omega)
      rw [hfull q (by omega)] at hqf
      rw [hqf] at htk
      repeat (first | refine js rfl ?_ | (refine jdraw ?_ ?_; · kernel_rfl) | refine jbu rfl rfl rfl rfl ?_)
      rw [hd1]
      repeat (first | refine js rfl ?_ | (refine jdraw ?_ ?_; · kernel_rfl) | refine jbu rfl rfl rfl rfl ?_)
      refine jnext (k + 1) ⟨by omega, htk⟩ (by omega) rfl rfl rfl ?_ rfl
      rw [hnx]; rfl
  · have h := of_decide_eq_false h
    rw [List.length_map] at h
    rw [List.take_of_length_le (by omega)] at hok
    rw [show isT l n = false from hok]
    repeat (first | refine js rfl ?_ | (refine jdraw ?_ ?_; · kernel_rfl) | refine jbu rfl rfl rfl rfl ?_)
    exact jr rfl rfl rfl rfl
theorem opN_nm : ∀ k : Nat, k < 27 → at' opN (k : Int) = nm k := by decide
set_option maxHeartbeats 8000000 in
theorem rprint_ok (l : List Ins) (hr : rightC l = true) : ACalls Tryd.prog 19 [encIs l] [] (one (sv (rprint l)) []) := by
  have hr1 : l.length ≤ 1000 := by unfold rightC at hr; simp at hr; omega
  have hr2 : l.all (mayI l.length) = true := by unfold rightC at hr; simp at hr; simpa using hr.2
  have hops : ∀ i ∈ l, 0 ≤ i.op ∧ i.op < 27 := fun i hi => by
    obtain ⟨k, hk, e⟩ := mayI_op (List.all_eq_true.1 hr2 i hi)
    omega
  have htl : ∀ k, k ≤ l.length → (txt l k).length ≤ 59000 := fun k hk => by
    have := pls_chars hr1 hr2 k hk
    unfold txt; omega
  have hist := fun n => isTarget_ok l n (by omega) hops
  unfold encIs at *
  refine jcalls Tryd.func19 rfl (by kernel_rfl) Tryd.ntmps19 rfl rfl (fun w0 β0 ext hβ => ?_)
  repeat (first | refine js rfl ?_ | (refine jdraw ?_ ?_; · kernel_rfl) | refine jbu rfl rfl rfl rfl ?_)
  refine jloop 0 (fun k : Nat => k ≤ l.length) [0, 3, 4] (fun k => [.sl (l.map encIns), sv (txt l k), iv k]) (fun _ => []) (fun k => l.length - k) 0 (by rw [hβ]; decide) (Nat.zero_le _) rfl rfl (fun k hk => ?_)
  have hd1 : decide ((k : Int) ≤ ((l.map encIns).length : Int)) = true := decide_eq_true (by rw [List.length_map]; omega)
  have hi := hist k
  have hdg := digits_ok (k : Int) ⟨by omega, by omega⟩
  have hdl := itoa_len (v := (k : Int)) ⟨by omega, by omega⟩
  have htk := htl k hk
  have c1 : (txt l k).length + ([108] : Bs).length ≤ 1000000000 := by simp; omega
  have c2 : (txt l k ++ [108]).length + (Lib.itoa k).length ≤ 1000000000 := by simp; omega
  have c3 : ((txt l k ++ [108]) ++ Lib.itoa k).length + ([58, 10] : Bs).length ≤ 1000000000 := by simp; omega
  -- what stands behind the label
  have hT : ∃ T, T = txt l k ++ labB (isT l k) k ∧ T.length ≤ 59014 := by
    refine ⟨_, rfl, ?_⟩
    have := labB_len (isT l k) (k : Int) ⟨by omega, by omega⟩
    rw [List.length_append]; omega
  obtain ⟨T, hT, hTl⟩ := hT
  have hlast : k = l.length → rprint l = T := fun e => by rw [rprint_txt, ← e, hT]
  have htx := fun (hk2 : k < l.length) => txt_succ l k
  rw [← hT] at htx
  have hgo : ∀ b, isT l k = b → T = txt l k ++ labB b k := fun b e => by rw [hT, e]
  clear hT
  cases hb : isT l k with
  | true =>
    rw [hb] at hi
    have hTe : (((txt l k ++ [108]) ++ Lib.itoa k) ++ [58, 10]) = T := by
      rw [hgo true hb]
      unfold labB
      simp
    repeat (first | refine js rfl ?_ | (refine jdraw ?_ ?_; · kernel_rfl) | refine jbu rfl rfl rfl rfl ?_)
    rw [hd1]
    repeat (first | refine js rfl ?_ | (refine jdraw ?_ ?_; · kernel_rfl) | refine jbu rfl rfl rfl rfl ?_ | refine jv hi rfl rfl rfl rfl rfl ?_ | refine jo rfl rfl (cat_str (a := txt l k) (b := [108]) rfl rfl c1) rfl rfl ?_ | refine jv hdg rfl rfl rfl rfl rfl ?_ | refine jo rfl rfl (cat_str (a := txt l k ++ [108]) rfl rfl c2) rfl rfl ?_ | refine jo rfl rfl (cat_str (b := [58, 10]) rfl rfl c3) rfl rfl ?_)
    rw [hTe]
    by_cases hend : k = l.length
    · have hd2 : ((k : Int) == ((l.map encIns).length : Int)) = true := by rw [List.length_map, hend]; simp
      rw [hlast hend]
      repeat (first | refine js rfl ?_ | (refine jdraw ?_ ?_; · kernel_rfl) | refine jbu rfl rfl rfl rfl ?_)
      rw [hd2]
      repeat (first | refine js rfl ?_ | (refine jdraw ?_ ?_; · kernel_rfl) | refine jbu rfl rfl rfl rfl ?_)
      exact jr rfl rfl rfl rfl
    · have hd2 : ((k : Int) == ((l.map encIns).length : Int)) = false := by rw [List.length_map]; simp; omega
      have hk2 : k < l.length := by omega
      have hkl : (k : Int) < l.length := by omega
      have hat := at_nat l k hk2
      have hnx := idx_next hk2 (by omega)
      have hop2 := hops l[k] (List.getElem_mem hk2)
      have hmay := List.all_eq_true.1 hr2 _ (List.getElem_mem hk2)
      have htx := htx hk2
      have hgd : l.getD k default = l[k] := by simp [List.getD, hk2]
      rw [hgd] at htx
      repeat (first | refine js rfl ?_ | (refine jdraw ?_ ?_; · kernel_rfl) | refine jbu rfl rfl rfl rfl ?_)
      rw [hd2]
      repeat (first | refine js rfl ?_ | (refine jdraw ?_ ?_; · kernel_rfl) | refine jbu rfl rfl rfl rfl ?_ | refine jo rfl rfl (index_at rfl rfl rfl rfl rfl rfl rfl rfl (Int.natCast_nonneg k) hkl) rfl rfl ?_)
      rw [hat]
      generalize l[k] = i at *
      obtain ⟨op, a, b, c⟩ := i
      obtain ⟨o, rfl⟩ : ∃ o : Nat, op = o := ⟨op.toNat, by simp only at hop2; omega⟩
      have ho : o < 27 := by simp only at hop2; omega
      have hno := opName_ok o ho
      rw [opN_nm o ho] at hno
      have hki := opKind_ok o ho
      rw [opK_at o ho] at hki
      obtain ⟨nm1, nm2, _⟩ := nm_wch o ho
      obtain ⟨hk3, hkc⟩ := kinds_ok o ho
      have hvb : ∀ v ∈ [a, b, c], bd v := by
        obtain ⟨ma, mb, mc⟩ := mayI_val hmay
        have hb : ∀ (c : Option UInt8) v, mayV c l.length v = true → bd v := fun c v hm => by
          obtain ⟨h1, h2⟩ := inn_iff.1 hm
          unfold lim at h1 h2
          cases c with
          | none => exact ⟨by simp at h1; omega, by simp at h2; omega⟩
          | some c =>
            simp only at h1 h2
            generalize decide (c = 114) = b1 at *
            generalize decide (c = 110) = b2 at *
            cases b1 <;> cases b2 <;> simp at h1 h2 <;> exact ⟨by omega, by omega⟩
        intro v hv
        simp only [List.mem_cons, List.mem_nil_iff, or_false] at hv
        rcases hv with rfl | rfl | rfl
        · exact hb _ _ ma
        · exact hb _ _ mb
        · exact hb _ _ mc
      have hpr : prL ⟨(o : Int), a, b, c⟩ = nm o ++ (List.zipWith prW (kdO o) [a, b, c]).flatMap (32 :: ·) := by
        unfold prL vals3
        rw [show (((o : Int))).toNat = o from Int.toNat_natCast o]
      rw [hpr] at htx
      rw [show (at' opsT (o : Int)).2 = kdO o from rfl] at hki hk3 hkc
      have hBl : (T ++ nm o).length ≤ 59019 := by rw [List.length_append]; omega
      have c4 : T.length + (nm o).length ≤ 1000000000 := by omega
      have hfull := fun q (hq : (kdO o).length ≤ q) => preQ_full (T ++ nm o) (kd := kdO o) (vs := [a, b, c]) hq
      have hpl := preQ_len (T ++ nm o) (kd := kdO o) (vs := [a, b, c]) hvb
      have htx2 : ∀ q, (kdO o).length ≤ q → txt l (k + 1) = preQ (T ++ nm o) (kdO o) [a, b, c] q ++ [10] := fun q hq => by rw [htx, hfull q hq]; simp
      have hsuc := @preQ_succ (T ++ nm o) (kdO o) [a, b, c]
      have hp0 : preQ (T ++ nm o) (kdO o) [a, b, c] 0 = T ++ nm o := by simp [preQ]
      generalize hB : T ++ nm o = B at *
      generalize nm o = nmo at *
      generalize kdO o = kd at *
      repeat (first | refine js rfl ?_ | (refine jdraw ?_ ?_; · kernel_rfl) | refine jbu rfl rfl rfl rfl ?_ | refine jv hno rfl rfl rfl rfl rfl ?_ | refine jo rfl rfl (cat_str (a := T) rfl rfl c4) rfl rfl ?_ | refine jv hki rfl rfl rfl rfl rfl ?_)
      rw [hB]
      refine jloopI (fun q : Nat => q ≤ kd.length) [0, 3, 4, 5, 6, 7] (fun q => [.sl (l.map encIns), sv (preQ B kd [a, b, c] q), iv k, .ptr 0 0, sv kd, iv q])
        (fun _ => [.box 31 [iv (o : Int), iv a, iv b, iv c]]) (fun q => kd.length - q) 0 (Nat.zero_le _) (by rw [hp0]; rfl) rfl (fun q hq => ?_)
      have hql := hpl q (by omega)
      have htq := htx2 q
      by_cases hqk : q < kd.length
      · have hd3 : decide ((q : Int) < ((ByteArray.size ⟨kd.toArray⟩ : Nat) : Int)) = true := decide_eq_true (by rw [show ByteArray.size ⟨kd.toArray⟩ = kd.length from rfl]; omega)
        have hc : kd[q]? = some kd[q] := List.getElem?_eq_getElem hqk
        have hcb := str_idx hc
        obtain ⟨v, hv⟩ : ∃ v, [a, b, c][q]? = some v := ⟨_, List.getElem?_eq_getElem (by simp; omega)⟩
        have hs2 := hsuc hc hv
        have hbv := hvb v (List.mem_of_getElem? hv)
        have hil := itoa_len hbv
        have hdv := digits_ok v hbv
        have hopd := operand_ok (o : Int) a b c q
        have hq3 : q = 0 ∨ q = 1 ∨ q = 2 := by omega
        have hv2 : val3 a b c q = v := by
          rcases hq3 with rfl | rfl | rfl <;> (simp at hv; exact hv)
        rw [hv2] at hopd
        clear hv hv2
        have hqn := idx_next hqk (by omega)
        have hcc := hkc kd[q] (List.getElem_mem hqk)
        generalize kd[q] = ch at *
        generalize preQ B kd [a, b, c] q = B1 at *
        generalize hB2 : preQ B kd [a, b, c] (q + 1) = B2 at *
        have d1 : ([114] : Bs).length + (Lib.itoa v).length ≤ 1000000000 := by simp; omega
        have d2 : ([108] : Bs).length + (Lib.itoa v).length ≤ 1000000000 := by simp; omega
        have d3 : B1.length + ([32] : Bs).length ≤ 1000000000 := by simp; omega
        have d4 : ∀ x : Bs, x.length ≤ 12 → (B1 ++ [32]).length + x.length ≤ 1000000000 := fun x hx => by simp; omega
        repeat (first | refine js rfl ?_ | (refine jdraw ?_ ?_; · kernel_rfl) | refine jbu rfl rfl rfl rfl ?_)
        rw [hd3]
        repeat (first | refine js rfl ?_ | (refine jdraw ?_ ?_; · kernel_rfl) | refine jbu rfl rfl rfl rfl ?_ | refine jv hopd rfl rfl rfl rfl rfl ?_ | refine jv hdv rfl rfl rfl rfl rfl ?_ | refine jo rfl rfl (index_str rfl rfl rfl rfl (Int.natCast_nonneg _) hcb) rfl rfl ?_)
        rcases hcc with rfl | rfl | rfl
        · have d5 := d4 ([114] ++ Lib.itoa v) (by first | omega | (simp; omega))
          repeat (first | refine js rfl ?_ | (refine jdraw ?_ ?_; · kernel_rfl) | refine jbu rfl rfl rfl rfl ?_ | refine jo rfl rfl (index_str rfl rfl rfl rfl (Int.natCast_nonneg _) hcb) rfl rfl ?_ | refine jo rfl rfl (cat_str (a := [114]) (b := Lib.itoa v) rfl rfl d1) rfl rfl ?_ | refine jo rfl rfl (cat_str (a := B1) (b := [32]) rfl rfl d3) rfl rfl ?_ | refine jo rfl rfl (cat_str (a := B1 ++ [32]) (b := ([114] ++ Lib.itoa v)) rfl rfl d5) rfl rfl ?_)
          rw [show (B1 ++ [32]) ++ ([114] ++ Lib.itoa v) = B2 from by rw [hs2]; simp [pfx]]
          refine jnextI (q + 1) (by omega) ?_ rfl (by omega)
          show some _ = some _
          rw [hqn, hB2]; rfl
        · have d5 := d4 (Lib.itoa v) (by first | omega | (simp; omega))
          repeat (first | refine js rfl ?_ | (refine jdraw ?_ ?_; · kernel_rfl) | refine jbu rfl rfl rfl rfl ?_ | refine jo rfl rfl (index_str rfl rfl rfl rfl (Int.natCast_nonneg _) hcb) rfl rfl ?_ | refine jo rfl rfl (cat_str (a := B1) (b := [32]) rfl rfl d3) rfl rfl ?_ | refine jo rfl rfl (cat_str (a := B1 ++ [32]) (b := (Lib.itoa v)) rfl rfl d5) rfl rfl ?_)
          rw [show (B1 ++ [32]) ++ (Lib.itoa v) = B2 from by rw [hs2]; simp [pfx]]
          refine jnextI (q + 1) (by omega) ?_ rfl (by omega)
          show some _ = some _
          rw [hqn, hB2]; rfl
        · have d5 := d4 ([108] ++ Lib.itoa v) (by first | omega | (simp; omega))
          repeat (first | refine js rfl ?_ | (refine jdraw ?_ ?_; · kernel_rfl) | refine jbu rfl rfl rfl rfl ?_ | refine jo rfl rfl (index_str rfl rfl rfl rfl (Int.natCast_nonneg _) hcb) rfl rfl ?_ | refine jo rfl rfl (cat_str (a := [108]) (b := Lib.itoa v) rfl rfl d2) rfl rfl ?_ | refine jo rfl rfl (cat_str (a := B1) (b := [32]) rfl rfl d3) rfl rfl ?_ | refine jo rfl rfl (cat_str (a := B1 ++ [32]) (b := ([108] ++ Lib.itoa v)) rfl rfl d5) rfl rfl ?_)
          rw [show (B1 ++ [32]) ++ ([108] ++ Lib.itoa v) = B2 from by rw [hs2]; simp [pfx]]
          refine jnextI (q + 1) (by omega) ?_ rfl (by omega)
          show some _ = some _
          rw [hqn, hB2]; rfl
      · have hd3 : decide ((q : Int) < ((ByteArray.size ⟨kd.toArray⟩ : Nat) : Int)) = false := decide_eq_false (by rw [show ByteArray.size ⟨kd.toArray⟩ = kd.length from rfl]; omega)
        have htq := htq (by omega)
        generalize preQ B kd [a, b, c] q = B1 at *
        have d6 : B1.length + ([10] : Bs).length ≤ 1000000000 := by simp; omega
        repeat (first | refine js rfl ?_ | (refine jdraw ?_ ?_; · kernel_rfl) | refine jbu rfl rfl rfl rfl ?_)
        rw [hd3]
        repeat (first | refine js rfl ?_ | (refine jdraw ?_ ?_; · kernel_rfl) | refine jbu rfl rfl rfl rfl ?_ | refine jo rfl rfl (cat_str (a := B1) (b := [10]) rfl rfl d6) rfl rfl ?_)
        rw [← htq]
        refine jnext (k + 1) (by omega) (by omega) rfl rfl rfl ?_ rfl
        rw [hnx]; rfl
  | false =>
    rw [hb] at hi
    have hTe : txt l k = T := by
      rw [hgo false hb]
      unfold labB
      simp
    repeat (first | refine js rfl ?_ | (refine jdraw ?_ ?_; · kernel_rfl) | refine jbu rfl rfl rfl rfl ?_)
    rw [hd1]
    repeat (first | refine js rfl ?_ | (refine jdraw ?_ ?_; · kernel_rfl) | refine jbu rfl rfl rfl rfl ?_ | refine jv hi rfl rfl rfl rfl rfl ?_)
    rw [hTe]
    by_cases hend : k = l.length
    · have hd2 : ((k : Int) == ((l.map encIns).length : Int)) = true := by rw [List.length_map, hend]; simp
      rw [hlast hend]
      repeat (first | refine js rfl ?_ | (refine jdraw ?_ ?_; · kernel_rfl) | refine jbu rfl rfl rfl rfl ?_)
      rw [hd2]
      repeat (first | refine js rfl ?_ | (refine jdraw ?_ ?_; · kernel_rfl) | refine jbu rfl rfl rfl rfl ?_)
      exact jr rfl rfl rfl rfl
    · have hd2 : ((k : Int) == ((l.map encIns).length : Int)) = false := by rw [List.length_map]; simp; omega
      have hk2 : k < l.length := by omega
      have hkl : (k : Int) < l.length := by omega
      have hat := at_nat l k hk2
      have hnx := idx_next hk2 (by omega)
      have hop2 := hops l[k] (List.getElem_mem hk2)
      have hmay := List.all_eq_true.1 hr2 _ (List.getElem_mem hk2)
      have htx := htx hk2
      have hgd : l.getD k default = l[k] := by simp [List.getD, hk2]
      rw [hgd] at htx
      repeat (first | refine js rfl ?_ | (refine jdraw ?_ ?_; · kernel_rfl) | refine jbu rfl rfl rfl rfl ?_)
      rw [hd2]
      repeat (first | refine js rfl ?_ | (refine jdraw ?_ ?_; · kernel_rfl) | refine jbu rfl rfl rfl rfl ?_ | refine jo rfl rfl (index_at rfl rfl rfl rfl rfl rfl rfl rfl (Int.natCast_nonneg k) hkl) rfl rfl ?_)
      rw [hat]
      generalize l[k] = i at *
      obtain ⟨op, a, b, c⟩ := i
      obtain ⟨o, rfl⟩ : ∃ o : Nat, op = o := ⟨op.toNat, by simp only at hop2; omega⟩
      have ho : o < 27 := by simp only at hop2; omega
      have hno := opName_ok o ho
      rw [opN_nm o ho] at hno
      have hki := opKind_ok o ho
      rw [opK_at o ho] at hki
      obtain ⟨nm1, nm2, _⟩ := nm_wch o ho
      obtain ⟨hk3, hkc⟩ := kinds_ok o ho
      have hvb : ∀ v ∈ [a, b, c], bd v := by
        obtain ⟨ma, mb, mc⟩ := mayI_val hmay
        have hb : ∀ (c : Option UInt8) v, mayV c l.length v = true → bd v := fun c v hm => by
          obtain ⟨h1, h2⟩ := inn_iff.1 hm
          unfold lim at h1 h2
          cases c with
          | none => exact ⟨by simp at h1; omega, by simp at h2; omega⟩
          | some c =>
            simp only at h1 h2
            generalize decide (c = 114) = b1 at *
            generalize decide (c = 110) = b2 at *
            cases b1 <;> cases b2 <;> simp at h1 h2 <;> exact ⟨by omega, by omega⟩
        intro v hv
        simp only [List.mem_cons, List.mem_nil_iff, or_false] at hv
        rcases hv with rfl | rfl | rfl
        · exact hb _ _ ma
        · exact hb _ _ mb
        · exact hb _ _ mc
      have hpr : prL ⟨(o : Int), a, b, c⟩ = nm o ++ (List.zipWith prW (kdO o) [a, b, c]).flatMap (32 :: ·) := by
        unfold prL vals3
        rw [show (((o : Int))).toNat = o from Int.toNat_natCast o]
      rw [hpr] at htx
      rw [show (at' opsT (o : Int)).2 = kdO o from rfl] at hki hk3 hkc
      have hBl : (T ++ nm o).length ≤ 59019 := by rw [List.length_append]; omega
      have c4 : T.length + (nm o).length ≤ 1000000000 := by omega
      have hfull := fun q (hq : (kdO o).length ≤ q) => preQ_full (T ++ nm o) (kd := kdO o) (vs := [a, b, c]) hq
      have hpl := preQ_len (T ++ nm o) (kd := kdO o) (vs := [a, b, c]) hvb
      have htx2 : ∀ q, (kdO o).length ≤ q → txt l (k + 1) = preQ (T ++ nm o) (kdO o) [a, b, c] q ++ [10] := fun q hq => by rw [htx, hfull q hq]; simp
      have hsuc := @preQ_succ (T ++ nm o) (kdO o) [a, b, c]
      have hp0 : preQ (T ++ nm o) (kdO o) [a, b, c] 0 = T ++ nm o := by simp [preQ]
      generalize hB : T ++ nm o = B at *
      generalize nm o = nmo at *
      generalize kdO o = kd at *
      repeat (first | refine js rfl ?_ | (refine jdraw ?_ ?_; · kernel_rfl) | refine jbu rfl rfl rfl rfl ?_ | refine jv hno rfl rfl rfl rfl rfl ?_ | refine jo rfl rfl (cat_str (a := T) rfl rfl c4) rfl rfl ?_ | refine jv hki rfl rfl rfl rfl rfl ?_)
      rw [hB]
      refine jloopI (fun q : Nat => q ≤ kd.length) [0, 3, 4, 5, 6, 7] (fun q => [.sl (l.map encIns), sv (preQ B kd [a, b, c] q), iv k, .ptr 0 0, sv kd, iv q])
        (fun _ => [.box 31 [iv (o : Int), iv a, iv b, iv c]]) (fun q => kd.length - q) 0 (Nat.zero_le _) (by rw [hp0]; rfl) rfl (fun q hq => ?_)
      have hql := hpl q (by omega)
      have htq := htx2 q
      by_cases hqk : q < kd.length
      · have hd3 : decide ((q : Int) < ((ByteArray.size ⟨kd.toArray⟩ : Nat) : Int)) = true := decide_eq_true (by rw [show ByteArray.size ⟨kd.toArray⟩ = kd.length from rfl]; omega)
        have hc : kd[q]? = some kd[q] := List.getElem?_eq_getElem hqk
        have hcb := str_idx hc
        obtain ⟨v, hv⟩ : ∃ v, [a, b, c][q]? = some v := ⟨_, List.getElem?_eq_getElem (by simp; omega)⟩
        have hs2 := hsuc hc hv
        have hbv := hvb v (List.mem_of_getElem? hv)
        have hil := itoa_len hbv
        have hdv := digits_ok v hbv
        have hopd := operand_ok (o : Int) a b c q
        have hq3 : q = 0 ∨ q = 1 ∨ q = 2 := by omega
        have hv2 : val3 a b c q = v := by
          rcases hq3 with rfl | rfl | rfl <;> (simp at hv; exact hv)
        rw [hv2] at hopd
        clear hv hv2
        have hqn := idx_next hqk (by omega)
        have hcc := hkc kd[q] (List.getElem_mem hqk)
        generalize kd[q] = ch at *
        generalize preQ B kd [a, b, c] q = B1 at *
        generalize hB2 : preQ B kd [a, b, c] (q + 1) = B2 at *
        have d1 : ([114] : Bs).length + (Lib.itoa v).length ≤ 1000000000 := by simp; omega
        have d2 : ([108] : Bs).length + (Lib.itoa v).length ≤ 1000000000 := by simp; omega
        have d3 : B1.length + ([32] : Bs).length ≤ 1000000000 := by simp; omega
        have d4 : ∀ x : Bs, x.length ≤ 12 → (B1 ++ [32]).length + x.length ≤ 1000000000 := fun x hx => by simp; omega
        repeat (first | refine js rfl ?_ | (refine jdraw ?_ ?_; · kernel_rfl) | refine jbu rfl rfl rfl rfl ?_)
        rw [hd3]
        repeat (first | refine js rfl ?_ | (refine jdraw ?_ ?_; · kernel_rfl) | refine jbu rfl rfl rfl rfl ?_ | refine jv hopd rfl rfl rfl rfl rfl ?_ | refine jv hdv rfl rfl rfl rfl rfl ?_ | refine jo rfl rfl (index_str rfl rfl rfl rfl (Int.natCast_nonneg _) hcb) rfl rfl ?_)
        rcases hcc with rfl | rfl | rfl
        · have d5 := d4 ([114] ++ Lib.itoa v) (by first | omega | (simp; omega))
          repeat (first | refine js rfl ?_ | (refine jdraw ?_ ?_; · kernel_rfl) | refine jbu rfl rfl rfl rfl ?_ | refine jo rfl rfl (index_str rfl rfl rfl rfl (Int.natCast_nonneg _) hcb) rfl rfl ?_ | refine jo rfl rfl (cat_str (a := [114]) (b := Lib.itoa v) rfl rfl d1) rfl rfl ?_ | refine jo rfl rfl (cat_str (a := B1) (b := [32]) rfl rfl d3) rfl rfl ?_ | refine jo rfl rfl (cat_str (a := B1 ++ [32]) (b := ([114] ++ Lib.itoa v)) rfl rfl d5) rfl rfl ?_)
          rw [show (B1 ++ [32]) ++ ([114] ++ Lib.itoa v) = B2 from by rw [hs2]; simp [pfx]]
          refine jnextI (q + 1) (by omega) ?_ rfl (by omega)
          show some _ = some _
          rw [hqn, hB2]; rfl
        · have d5 := d4 (Lib.itoa v) (by first | omega | (simp; omega))
          repeat (first | refine js rfl ?_ | (refine jdraw ?_ ?_; · kernel_rfl) | refine jbu rfl rfl rfl rfl ?_ | refine jo rfl rfl (index_str rfl rfl rfl rfl (Int.natCast_nonneg _) hcb) rfl rfl ?_ | refine jo rfl rfl (cat_str (a := B1) (b := [32]) rfl rfl d3) rfl rfl ?_ | refine jo rfl rfl (cat_str (a := B1 ++ [32]) (b := (Lib.itoa v)) rfl rfl d5) rfl rfl ?_)
          rw [show (B1 ++ [32]) ++ (Lib.itoa v) = B2 from by rw [hs2]; simp [pfx]]
          refine jnextI (q + 1) (by omega) ?_ rfl (by omega)
          show some _ = some _
          rw [hqn, hB2]; rfl
        · have d5 := d4 ([108] ++ Lib.itoa v) (by first | omega | (simp; omega))
          repeat (first | refine js rfl ?_ | (refine jdraw ?_ ?_; · kernel_rfl) | refine jbu rfl rfl rfl rfl ?_ | refine jo rfl rfl (index_str rfl rfl rfl rfl (Int.natCast_nonneg _) hcb) rfl rfl ?_ | refine jo rfl rfl (cat_str (a := [108]) (b := Lib.itoa v) rfl rfl d2) rfl rfl ?_ | refine jo rfl rfl (cat_str (a := B1) (b := [32]) rfl rfl d3) rfl rfl ?_ | refine jo rfl rfl (cat_str (a := B1 ++ [32]) (b := ([108] ++ Lib.itoa v)) rfl rfl d5) rfl rfl ?_)
          rw [show (B1 ++ [32]) ++ ([108] ++ Lib.itoa v) = B2 from by rw [hs2]; simp [pfx]]
          refine jnextI (q + 1) (by omega) ?_ rfl (by omega)
          show some _ = some _
          rw [hqn, hB2]; rfl
      · have hd3 : decide ((q : Int) < ((ByteArray.size ⟨kd.toArray⟩ : Nat) : Int)) = false := decide_eq_false (by rw [show ByteArray.size ⟨kd.toArray⟩ = kd.length from rfl]; omega)
        have htq := htq (by omega)
        generalize preQ B kd [a, b, c] q = B1 at *
        have d6 : B1.length + ([10] : Bs).length ≤ 1000000000 := by simp; omega
        repeat (first | refine js rfl ?_ | (refine jdraw ?_ ?_; · kernel_rfl) | refine jbu rfl rfl rfl rfl ?_)
        rw [hd3]
        repeat (first | refine js rfl ?_ | (refine jdraw ?_ ?_; · kernel_rfl) | refine jbu rfl rfl rfl rfl ?_ | refine jo rfl rfl (cat_str (a := B1) (b := [10]) rfl rfl d6) rfl rfl ?_)
        rw [← htq]
        refine jnext (k + 1) (by omega) (by omega) rfl rfl rfl ?_ rfl
        rw [hnx]; rfl
end Go.AL
namespace Go.AL
open Go Go.Proofs
attribute [local irreducible] J

theorem prints_ok (g : Gl) (l : List Ins) (hl : l.length ≤ 9223372036854775807) : ACalls Tryd.prog 6 [encIs l] (gls g) (one (bv true) (gls g)) := by
  have h1 := code_ok l hl
  have hl2 : (l.take 200).length ≤ 200 := by rw [List.length_take]; omega
  generalize l.take 200 = c at *
  have h2 := print_ok g c (by omega)
  have h3 := right_ok c (by omega)
  have h5 := rright_ok c (by omega)
  have h4 := alive_ok g
  unfold printP at h2
  cases hr : rightC c with
  | false =>
    rw [hr] at h2 h3 h5
    simp only [cond_false] at h2
    refine jcalls Tryd.func6 rfl (by kernel_rfl) Tryd.ntmps6 rfl rfl (fun w0 β0 ext hβ => ?_)
    repeat (first | refine js rfl ?_ | (refine jdraw ?_ ?_; · kernel_rfl) | refine jbu rfl rfl rfl rfl ?_ | refine jv h1 rfl rfl rfl rfl rfl ?_)
    refine jb [0,1,2,3] h2 rfl rfl rfl ⟨rfl, rfl, rfl, rfl, rfl, rfl⟩ rfl rfl rfl rfl ?_
    repeat (first | refine js rfl ?_ | (refine jdraw ?_ ?_; · kernel_rfl) | refine jbu rfl rfl rfl rfl ?_ | refine jv h3 rfl rfl rfl rfl rfl ?_)
    repeat (first | refine js rfl ?_ | (refine jdraw ?_ ?_; · kernel_rfl) | refine jbu rfl rfl rfl rfl ?_ | refine jv h5 rfl rfl rfl rfl rfl ?_)
    refine jb [0,1,2,3] h4 rfl rfl rfl ⟨rfl, rfl, rfl, rfl, rfl, rfl⟩ rfl rfl rfl rfl ?_
    repeat (first | refine js rfl ?_ | (refine jdraw ?_ ?_; · kernel_rfl) | refine jbu rfl rfl rfl rfl ?_ | refine jv h5 rfl rfl rfl rfl rfl ?_)
    rw [beq_self_eq_true]
    repeat (first | refine js rfl ?_ | (refine jdraw ?_ ?_; · kernel_rfl) | refine jbu rfl rfl rfl rfl ?_)
    exact jr rfl rfl rfl rfl
  | true =>
    have h6 := rprint_ok c hr
    rw [hr] at h2 h3 h5
    simp only [cond_true] at h2
    generalize rprint c = s at *
    refine jcalls Tryd.func6 rfl (by kernel_rfl) Tryd.ntmps6 rfl rfl (fun w0 β0 ext hβ => ?_)
    repeat (first | refine js rfl ?_ | (refine jdraw ?_ ?_; · kernel_rfl) | refine jbu rfl rfl rfl rfl ?_ | refine jv h1 rfl rfl rfl rfl rfl ?_)
    refine jb [0,1,2,3] h2 rfl rfl rfl ⟨rfl, rfl, rfl, rfl, rfl, rfl⟩ rfl rfl rfl rfl ?_
    repeat (first | refine js rfl ?_ | (refine jdraw ?_ ?_; · kernel_rfl) | refine jbu rfl rfl rfl rfl ?_ | refine jv h3 rfl rfl rfl rfl rfl ?_)
    repeat (first | refine js rfl ?_ | (refine jdraw ?_ ?_; · kernel_rfl) | refine jbu rfl rfl rfl rfl ?_ | refine jv h5 rfl rfl rfl rfl rfl ?_)
    refine jb [0,1,2,3] h4 rfl rfl rfl ⟨rfl, rfl, rfl, rfl, rfl, rfl⟩ rfl rfl rfl rfl ?_
    repeat (first | refine js rfl ?_ | (refine jdraw ?_ ?_; · kernel_rfl) | refine jbu rfl rfl rfl rfl ?_ | refine jv h5 rfl rfl rfl rfl rfl ?_ | refine jv h6 rfl rfl rfl rfl rfl ?_)
    rw [beq_self_eq_true]
    repeat (first | refine js rfl ?_ | (refine jdraw ?_ ?_; · kernel_rfl) | refine jbu rfl rfl rfl rfl ?_)
    exact jr rfl rfl rfl rfl
end Go.AL
