/-
  The plain law of AsmReads, sixth part: the reference's numbers. No model.
-/
import Derived.Test.YtaoiflliakjhdaaDoorV13
set_option linter.unusedVariables false
set_option linter.unusedSimpArgs false
namespace Go.AL
open Go Go.Proofs

theorem rnumT_dd (bl : Bool) (u : Nat) (h : u ≤ 1000000000) (hb : bl = true → 1 ≤ u) : rnumT bl (Lib.decDigits u) = (cond bl (0 - (u : Int)) u, true) := by
  have hl := dd_len 9 u (by omega)
  have ha := dd_all u
  have hv := dsum_all _ ha
  rw [dd_val] at hv
  have hh := dd_head u
  cases hd : Lib.decDigits u with
  | nil => exact absurd hd (dd_ne u)
  | cons c r =>
    rw [hd] at hl ha hv hh
    have ha2 : (c :: r).all isDig = true := by rw [← ha]; congr 1; funext x; exact isDig_dgt x
    simp only [List.length_cons] at hl hv
    have h0 : (decide (r.length + 1 > 10) || (decide (c = 48) && (decide (r.length + 1 > 1) || bl))) = false := by
      have e1 : decide (r.length + 1 > 10) = false := by simp; omega
      rw [e1, Bool.false_or]
      by_cases hc : c = 48
      · have hu := hh (by rw [hc]; rfl)
        have hbf : bl = false := by cases bl; · rfl
                                    · have := hb rfl; omega
        rw [hu, Lib.decDigits_one (by omega)] at hd
        injection hd with _ hr
        rw [← hr, hbf]
        simp
      · rw [decide_eq_false hc]; rfl
    show cond (decide (r.length + 1 > 10) || (decide (c = 48) && (decide (r.length + 1 > 1) || bl))) (0, false) (cond ((c :: r).all isDig) (cond (decide (dsum (c :: r) (r.length + 1) > 1000000000)) (0, false) (cond bl (0 - dsum (c :: r) (r.length + 1)) (dsum (c :: r) (r.length + 1)), true)) (0, false)) = _
    have e2 : decide ((u : Int) > 1000000000) = false := by simp; omega
    rw [h0, ha2, hv, e2]
    rfl
theorem rnumT_back {bl : Bool} {t : Bs} (h : (rnumT bl t).2 = true) : ∃ u : Nat, t = Lib.decDigits u ∧ u ≤ 1000000000 ∧ (bl = true → 1 ≤ u) := by
  cases t with
  | nil => exact absurd h (by simp [rnumT])
  | cons c r =>
    unfold rnumT at h
    simp only at h
    cases h0 : (decide (r.length + 1 > 10) || (decide (c = 48) && (decide (r.length + 1 > 1) || bl))) with
    | true => rw [h0] at h; exact absurd h (by simp)
    | false =>
      rw [h0] at h
      simp only [cond_false] at h
      cases ha2 : (c :: r).all isDig with
      | false => rw [ha2] at h; exact absurd h (by simp)
      | true =>
        rw [ha2] at h
        simp only [cond_true] at h
        have ha : (c :: r).all dgt = true := by rw [← ha2]; congr 1; funext x; exact (isDig_dgt x).symm
        have hv := dsum_all _ ha
        simp only [List.length_cons] at hv
        rw [hv] at h
        have hle : dvA 0 (c :: r) ≤ 1000000000 := by
          by_cases hq : (dvA 0 (c :: r) : Int) > 1000000000
          · rw [decide_eq_true hq] at h; exact absurd h (by simp)
          · omega
        rw [Bool.or_eq_false_iff] at h0
        have e := dd_canon _ (c :: r) rfl (by simp) ha (fun e => by
          rw [List.head?_cons] at e
          injection e with e
          have := h0.2
          rw [decide_eq_true e] at this
          simp at this
          simp [this.1])
        refine ⟨dvA 0 (c :: r), e.symm, hle, fun hb => ?_⟩
        rcases Nat.eq_zero_or_pos (dvA 0 (c :: r)) with hz | hz
        · rw [hz, Lib.decDigits_one (by omega)] at e
          injection e with e1 e2
          have := h0.2
          rw [hb, ← e1, Bool.or_true, Bool.and_true] at this
          exact absurd this (by decide)
        · exact hz
theorem rnum_can {s : Bs} {v : Int} (h : can s v) : rnum s = (v, true) := by
  obtain ⟨rfl, h1, h2⟩ := h
  unfold Lib.itoa
  by_cases hv : v < 0
  · rw [if_pos hv]
    show rnumT true (Lib.decDigits v.natAbs) = _
    rw [rnumT_dd true _ (by omega) (fun _ => by omega)]
    simp only [cond_true]
    congr 1
    omega
  · rw [if_neg hv]
    have e := rnumT_dd false v.toNat (by omega) (fun h => by cases h)
    obtain ⟨c, r, hd, hc⟩ := dd_first v.toNat
    rw [hd] at e ⊢
    have h45 : ¬ c = 45 := fun e => by rw [e] at hc; exact absurd hc (by decide)
    show cond (decide (c = 45)) (rnumT true r) (rnumT false (c :: r)) = _
    rw [decide_eq_false h45]
    simp only [cond_false]
    rw [e]
    simp only [cond_false]
    congr 1
    omega
theorem can_rnum {s : Bs} (h : (rnum s).2 = true) : ∃ v, can s v := by
  cases s with
  | nil => exact absurd h (by simp [rnum])
  | cons c r =>
    have e : rnum (c :: r) = cond (decide (c = 45)) (rnumT true r) (rnumT false (c :: r)) := rfl
    rw [e] at h
    by_cases hc : c = 45
    · rw [decide_eq_true hc] at h
      obtain ⟨u, hu, hl, hp⟩ := rnumT_back h
      have := hp rfl
      refine ⟨-(u : Int), ?_, by omega, by omega⟩
      rw [hc, hu, Lib.itoa, if_pos (by omega)]
      congr 2
      omega
    · rw [decide_eq_false hc] at h
      simp only [cond_false] at h
      obtain ⟨u, hu, hl, hp⟩ := rnumT_back h
      refine ⟨(u : Int), ?_, by omega, by omega⟩
      rw [hu, Lib.itoa, if_neg (by omega)]
      congr 1
theorem rdN_eq (s : Bs) : rdN s = ropN s := by
  unfold rdN ropN
  cases h : numOk s with
  | true => rw [rnum_can (can_numOk h)]
  | false =>
    cases h2 : (rnum s).2 with
    | false => rfl
    | true =>
      obtain ⟨v, hv⟩ := can_rnum h2
      rw [(numOk_can hv).1] at h
      cases h
end Go.AL
