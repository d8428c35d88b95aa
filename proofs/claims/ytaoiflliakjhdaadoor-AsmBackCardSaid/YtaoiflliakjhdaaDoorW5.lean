/-
  asm.Right: the walk. No conditions.
-/
import Derived.Test.YtaoiflliakjhdaaDoorV20
import Derived.Test.YtaoiflliakjhdaaDoorW4
set_option linter.unusedVariables false
set_option linter.unusedSimpArgs false
set_option maxRecDepth 100000
namespace Go.AL
open Go Go.Proofs
attribute [local irreducible] J

theorem operands_ok (op a b c : Int) : ACalls Tryd.prog 36 [.agg [iv op, iv a, iv b, iv c]] [] (one (.agg [iv a, iv b, iv c]) []) := by
  refine jcalls Tryd.func36 rfl (by kernel_rfl) Tryd.ntmps36 rfl rfl (fun w0 β0 ext hβ => ?_)
  repeat (first | refine js rfl ?_ | (refine jdraw ?_ ?_; · kernel_rfl) | refine jbu rfl rfl rfl rfl ?_)
  exact jr rfl rfl rfl rfl
def mH (l : List Ins) : List AObj := [.box 60 opsC, .box 23 [.sl (l.map encIns)]]
theorem mayR {n : Nat} {kd : Bs} {a b c : Int} :
    ((∀ p, p < 3 → mayV kd[p]? n ([a, b, c].getD p 0) = true) → (mayV kd[0]? n a && (mayV kd[1]? n b && mayV kd[2]? n c)) = true) ∧
    ∀ p, p < 3 → mayV kd[p]? n ([a, b, c].getD p 0) = false → (mayV kd[0]? n a && (mayV kd[1]? n b && mayV kd[2]? n c)) = false := by
  refine ⟨fun h => ?_, fun p hp h => ?_⟩
  · have h0 := h 0 (by omega); have h1 := h 1 (by omega); have h2 := h 2 (by omega)
    simp at h0 h1 h2
    rw [h0, h1, h2]; rfl
  · match p, hp with
    | 0, _ => simp at h; rw [h]; rfl
    | 1, _ => simp at h; rw [h]; simp
    | 2, _ => simp at h; rw [h]; simp
    | p + 3, hp => omega
theorem str_idx {kd : Bs} {i : Nat} {c : UInt8} (hc : kd[i]? = some c) : (⟨kd.toArray⟩ : ByteArray)[((i : Int)).toNat]? = some c := by
  have hik : i < kd.length := (List.getElem?_eq_some_iff.1 hc).1
  have hsz : ((i : Int)).toNat < (⟨kd.toArray⟩ : ByteArray).size := hik
  rw [getElem?_pos (⟨kd.toArray⟩ : ByteArray) _ hsz]
  rw [List.getElem?_eq_getElem hik] at hc
  injection hc with hc
  rw [← hc]; rfl
theorem may1_ok (l : List Ins) (op a b c : Int) (hl : l.length ≤ 1000000) : ACalls Tryd.prog 39 [.agg [iv op, iv a, iv b, iv c], .ptr 0 0, .ptr 1 0] (mH l) (one (bv (mayI l.length ⟨op, a, b, c⟩)) (mH l)) := by
  have h1 := in_ok op 0 26
  have h2 := operands_ok op a b c
  unfold mayI mH
  simp only
  cases hop : inn op 0 26 with
  | false =>
    rw [hop] at h1
    simp only [Bool.false_and]
    refine jcalls Tryd.func39 rfl (by kernel_rfl) Tryd.ntmps39 rfl rfl (fun w0 β0 ext hβ => ?_)
    repeat (first | refine js rfl ?_ | (refine jdraw ?_ ?_; · kernel_rfl) | refine jbu rfl rfl rfl rfl ?_ | refine jv h1 rfl rfl rfl rfl rfl ?_)
    exact jr rfl rfl rfl rfl
  | true =>
    rw [hop] at h1
    simp only [Bool.true_and]
    obtain ⟨ho1, ho2⟩ := inn_iff.1 hop
    obtain ⟨k, rfl⟩ : ∃ k : Nat, op = k := ⟨op.toNat, by omega⟩
    have hk : k < 27 := by omega
    have hkd := ops_kind k hk
    obtain ⟨hk3, hkc⟩ := kinds_ok k hk
    rw [show ((k : Int)).toNat = k from Int.toNat_natCast k]
    unfold kdO
    generalize (at' opsT (k : Int)).2 = kd at *
    obtain ⟨rt, rf⟩ := mayR (n := l.length) (kd := kd) (a := a) (b := b) (c := c)
    generalize (mayV kd[0]? l.length a && (mayV kd[1]? l.length b && mayV kd[2]? l.length c)) = res at *
    refine jcalls Tryd.func39 rfl (by kernel_rfl) Tryd.ntmps39 rfl rfl (fun w0 β0 ext hβ => ?_)
    repeat (first | refine js rfl ?_ | (refine jdraw ?_ ?_; · kernel_rfl) | refine jbu rfl rfl rfl rfl ?_ | refine jv h1 rfl rfl rfl rfl rfl ?_ | refine jo rfl rfl (index_arr rfl rfl rfl rfl rfl (by omega) (by omega)) rfl rfl ?_ | refine jo rfl rfl (load_dsem rfl rfl rfl hkd) rfl rfl ?_ | refine jv h2 rfl rfl rfl rfl rfl ?_)
    refine jloopI (fun q : Nat => q ≤ 3 ∧ ∀ p, p < q → mayV kd[p]? l.length ([a, b, c].getD p 0) = true) [3, 5, 20, 21, 1, 2] (fun q => [.ptr 2 0, sv kd, .agg [iv a, iv b, iv c], iv q, .ptr 0 0, .ptr 1 0])
      (fun _ => [.box 60 opsC, .box 23 [.sl (l.map encIns)], .box 31 [iv (k : Int), iv a, iv b, iv c]]) (fun q => 3 - q) 0 ⟨by omega, fun p hp => absurd hp (by omega)⟩ rfl rfl (fun q hq => ?_)
    obtain ⟨hq, hok⟩ := hq
    have hstep : ∀ q, q < 3 → (∀ p, p < q → mayV kd[p]? l.length ([a, b, c].getD p 0) = true) → mayV kd[q]? l.length ([a, b, c].getD q 0) = true → q + 1 ≤ 3 ∧ ∀ p, p < q + 1 → mayV kd[p]? l.length ([a, b, c].getD p 0) = true := fun q hq h1 h2 => ⟨by omega, fun p hp => by
      by_cases e : p = q
      · rw [e]; exact h2
      · exact h1 p (by omega)⟩
    by_cases hq3 : q = 3
    · subst hq3
      rw [rt hok]
      repeat (first | refine js rfl ?_ | (refine jdraw ?_ ?_; · kernel_rfl) | refine jbu rfl rfl rfl rfl ?_)
      exact jr rfl rfl rfl rfl
    · have hql : q = 0 ∨ q = 1 ∨ q = 2 := by omega
      obtain ⟨v, hv⟩ : ∃ v, [a, b, c].getD q 0 = v := ⟨_, rfl⟩
      have rf' := rf q (by omega)
      have hst := hstep q (by omega) hok
      rw [hv] at rf' hst
      by_cases hqk : q < kd.length
      · have hc : kd[q]? = some kd[q] := List.getElem?_eq_getElem hqk
        have hcb := str_idx hc
        have hcc := hkc kd[q] (List.getElem_mem hqk)
        have hd1 : decide ((q : Int) < ((ByteArray.size ⟨kd.toArray⟩ : Nat) : Int)) = true := decide_eq_true (by rw [show ByteArray.size ⟨kd.toArray⟩ = kd.length from rfl]; omega)
        rw [hc] at rf' hst
        generalize kd[q] = ch at *
        rcases hcc with rfl | rfl | rfl
        · skip
          have h3 := in_ok v 0 7
          have e : mayV (some 114) l.length v = inn v 0 7 := rfl
          rw [e] at rf' hst
          cases hb : inn v 0 7 with
          | false =>
            rw [hb] at h3
            rw [rf' hb]
            rcases hql with rfl | rfl | rfl
            all_goals subst hv
            all_goals (
              repeat (first | refine js rfl ?_ | (refine jdraw ?_ ?_; · kernel_rfl) | refine jbu rfl rfl rfl rfl ?_ | refine jo rfl rfl (index_agg rfl rfl rfl rfl rfl (by omega) (by omega) rfl) rfl rfl ?_ | refine jo rfl rfl (index_str rfl rfl rfl rfl (Int.natCast_nonneg _) hcb) rfl rfl ?_ | refine jv h3 rfl rfl rfl rfl rfl ?_)
            )
            all_goals rw [hd1]
            all_goals (
              repeat (first | refine js rfl ?_ | (refine jdraw ?_ ?_; · kernel_rfl) | refine jbu rfl rfl rfl rfl ?_ | refine jo rfl rfl (index_agg rfl rfl rfl rfl rfl (by omega) (by omega) rfl) rfl rfl ?_ | refine jo rfl rfl (index_str rfl rfl rfl rfl (Int.natCast_nonneg _) hcb) rfl rfl ?_ | refine jv h3 rfl rfl rfl rfl rfl ?_)
            )
            all_goals exact jr rfl rfl rfl rfl
          | true =>
            rw [hb] at h3
            rcases hql with rfl | rfl | rfl
            all_goals subst hv
            all_goals (
              repeat (first | refine js rfl ?_ | (refine jdraw ?_ ?_; · kernel_rfl) | refine jbu rfl rfl rfl rfl ?_ | refine jo rfl rfl (index_agg rfl rfl rfl rfl rfl (by omega) (by omega) rfl) rfl rfl ?_ | refine jo rfl rfl (index_str rfl rfl rfl rfl (Int.natCast_nonneg _) hcb) rfl rfl ?_ | refine jv h3 rfl rfl rfl rfl rfl ?_)
            )
            all_goals rw [hd1]
            all_goals (
              repeat (first | refine js rfl ?_ | (refine jdraw ?_ ?_; · kernel_rfl) | refine jbu rfl rfl rfl rfl ?_ | refine jo rfl rfl (index_agg rfl rfl rfl rfl rfl (by omega) (by omega) rfl) rfl rfl ?_ | refine jo rfl rfl (index_str rfl rfl rfl rfl (Int.natCast_nonneg _) hcb) rfl rfl ?_ | refine jv h3 rfl rfl rfl rfl rfl ?_)
            )
            all_goals refine jnextI (_ + 1) (hst hb) rfl rfl (by omega)
        · skip
          have h3 := in_ok v (-1000000000) 1000000000
          have e : mayV (some 110) l.length v = inn v (-1000000000) 1000000000 := rfl
          rw [e] at rf' hst
          cases hb : inn v (-1000000000) 1000000000 with
          | false =>
            rw [hb] at h3
            rw [rf' hb]
            rcases hql with rfl | rfl | rfl
            all_goals subst hv
            all_goals (
              repeat (first | refine js rfl ?_ | (refine jdraw ?_ ?_; · kernel_rfl) | refine jbu rfl rfl rfl rfl ?_ | refine jo rfl rfl (index_agg rfl rfl rfl rfl rfl (by omega) (by omega) rfl) rfl rfl ?_ | refine jo rfl rfl (index_str rfl rfl rfl rfl (Int.natCast_nonneg _) hcb) rfl rfl ?_ | refine jv h3 rfl rfl rfl rfl rfl ?_)
            )
            all_goals rw [hd1]
            all_goals (
              repeat (first | refine js rfl ?_ | (refine jdraw ?_ ?_; · kernel_rfl) | refine jbu rfl rfl rfl rfl ?_ | refine jo rfl rfl (index_agg rfl rfl rfl rfl rfl (by omega) (by omega) rfl) rfl rfl ?_ | refine jo rfl rfl (index_str rfl rfl rfl rfl (Int.natCast_nonneg _) hcb) rfl rfl ?_ | refine jv h3 rfl rfl rfl rfl rfl ?_)
            )
            all_goals exact jr rfl rfl rfl rfl
          | true =>
            rw [hb] at h3
            rcases hql with rfl | rfl | rfl
            all_goals subst hv
            all_goals (
              repeat (first | refine js rfl ?_ | (refine jdraw ?_ ?_; · kernel_rfl) | refine jbu rfl rfl rfl rfl ?_ | refine jo rfl rfl (index_agg rfl rfl rfl rfl rfl (by omega) (by omega) rfl) rfl rfl ?_ | refine jo rfl rfl (index_str rfl rfl rfl rfl (Int.natCast_nonneg _) hcb) rfl rfl ?_ | refine jv h3 rfl rfl rfl rfl rfl ?_)
            )
            all_goals rw [hd1]
            all_goals (
              repeat (first | refine js rfl ?_ | (refine jdraw ?_ ?_; · kernel_rfl) | refine jbu rfl rfl rfl rfl ?_ | refine jo rfl rfl (index_agg rfl rfl rfl rfl rfl (by omega) (by omega) rfl) rfl rfl ?_ | refine jo rfl rfl (index_str rfl rfl rfl rfl (Int.natCast_nonneg _) hcb) rfl rfl ?_ | refine jv h3 rfl rfl rfl rfl rfl ?_)
            )
            all_goals refine jnextI (_ + 1) (hst hb) rfl rfl (by omega)
        · skip
          have h3 := in_ok v 0 ((l.map encIns).length : Int)
          have e : mayV (some 116) l.length v = inn v 0 ((l.map encIns).length : Int) := by rw [List.length_map]; rfl
          rw [e] at rf' hst
          cases hb : inn v 0 ((l.map encIns).length : Int) with
          | false =>
            rw [hb] at h3
            rw [rf' hb]
            rcases hql with rfl | rfl | rfl
            all_goals subst hv
            all_goals (
              repeat (first | refine js rfl ?_ | (refine jdraw ?_ ?_; · kernel_rfl) | refine jbu rfl rfl rfl rfl ?_ | refine jo rfl rfl (index_agg rfl rfl rfl rfl rfl (by omega) (by omega) rfl) rfl rfl ?_ | refine jo rfl rfl (index_str rfl rfl rfl rfl (Int.natCast_nonneg _) hcb) rfl rfl ?_ | refine jv h3 rfl rfl rfl rfl rfl ?_)
            )
            all_goals rw [hd1]
            all_goals (
              repeat (first | refine js rfl ?_ | (refine jdraw ?_ ?_; · kernel_rfl) | refine jbu rfl rfl rfl rfl ?_ | refine jo rfl rfl (index_agg rfl rfl rfl rfl rfl (by omega) (by omega) rfl) rfl rfl ?_ | refine jo rfl rfl (index_str rfl rfl rfl rfl (Int.natCast_nonneg _) hcb) rfl rfl ?_ | refine jv h3 rfl rfl rfl rfl rfl ?_)
            )
            all_goals exact jr rfl rfl rfl rfl
          | true =>
            rw [hb] at h3
            rcases hql with rfl | rfl | rfl
            all_goals subst hv
            all_goals (
              repeat (first | refine js rfl ?_ | (refine jdraw ?_ ?_; · kernel_rfl) | refine jbu rfl rfl rfl rfl ?_ | refine jo rfl rfl (index_agg rfl rfl rfl rfl rfl (by omega) (by omega) rfl) rfl rfl ?_ | refine jo rfl rfl (index_str rfl rfl rfl rfl (Int.natCast_nonneg _) hcb) rfl rfl ?_ | refine jv h3 rfl rfl rfl rfl rfl ?_)
            )
            all_goals rw [hd1]
            all_goals (
              repeat (first | refine js rfl ?_ | (refine jdraw ?_ ?_; · kernel_rfl) | refine jbu rfl rfl rfl rfl ?_ | refine jo rfl rfl (index_agg rfl rfl rfl rfl rfl (by omega) (by omega) rfl) rfl rfl ?_ | refine jo rfl rfl (index_str rfl rfl rfl rfl (Int.natCast_nonneg _) hcb) rfl rfl ?_ | refine jv h3 rfl rfl rfl rfl rfl ?_)
            )
            all_goals refine jnextI (_ + 1) (hst hb) rfl rfl (by omega)
      · have hc : kd[q]? = none := List.getElem?_eq_none (by omega)
        have hd1 : decide ((q : Int) < ((ByteArray.size ⟨kd.toArray⟩ : Nat) : Int)) = false := decide_eq_false (by rw [show ByteArray.size ⟨kd.toArray⟩ = kd.length from rfl]; omega)
        rw [hc] at rf' hst
        have h3 := in_ok v 0 0
        have e : mayV none l.length v = inn v 0 0 := rfl
        rw [e] at rf' hst
        cases hb : inn v 0 0 with
        | false =>
          rw [hb] at h3
          rw [rf' hb]
          rcases hql with rfl | rfl | rfl
          all_goals subst hv
          all_goals (
            repeat (first | refine js rfl ?_ | (refine jdraw ?_ ?_; · kernel_rfl) | refine jbu rfl rfl rfl rfl ?_ | refine jo rfl rfl (index_agg rfl rfl rfl rfl rfl (by omega) (by omega) rfl) rfl rfl ?_ | refine jv h3 rfl rfl rfl rfl rfl ?_)
          )
          all_goals rw [hd1]
          all_goals (
            repeat (first | refine js rfl ?_ | (refine jdraw ?_ ?_; · kernel_rfl) | refine jbu rfl rfl rfl rfl ?_ | refine jo rfl rfl (index_agg rfl rfl rfl rfl rfl (by omega) (by omega) rfl) rfl rfl ?_ | refine jv h3 rfl rfl rfl rfl rfl ?_)
          )
          all_goals exact jr rfl rfl rfl rfl
        | true =>
          rw [hb] at h3
          rcases hql with rfl | rfl | rfl
          all_goals subst hv
          all_goals (
            repeat (first | refine js rfl ?_ | (refine jdraw ?_ ?_; · kernel_rfl) | refine jbu rfl rfl rfl rfl ?_ | refine jo rfl rfl (index_agg rfl rfl rfl rfl rfl (by omega) (by omega) rfl) rfl rfl ?_ | refine jv h3 rfl rfl rfl rfl rfl ?_)
          )
          all_goals rw [hd1]
          all_goals (
            repeat (first | refine js rfl ?_ | (refine jdraw ?_ ?_; · kernel_rfl) | refine jbu rfl rfl rfl rfl ?_ | refine jo rfl rfl (index_agg rfl rfl rfl rfl rfl (by omega) (by omega) rfl) rfl rfl ?_ | refine jv h3 rfl rfl rfl rfl rfl ?_)
          )
          all_goals refine jnextI (_ + 1) (hst hb) rfl rfl (by omega)
end Go.AL
