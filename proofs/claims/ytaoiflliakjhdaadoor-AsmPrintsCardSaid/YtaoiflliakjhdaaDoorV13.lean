/-
  The plain law of AsmReads, fifth part: numbers. No model.
-/
import Derived.Test.YtaoiflliakjhdaaDoorV12
set_option linter.unusedVariables false
set_option linter.unusedSimpArgs false
namespace Go.AL
open Go Go.Proofs

theorem isDig_dgt (c : UInt8) : isDig c = dgt c := by
  unfold isDig dgt
  rw [Bool.eq_iff_iff]
  simp
  omega
theorem dsum_dv : ∀ (l : Bs) (a : Nat), l.all dgt = true → l.foldl (fun n c => 10 * n + ((c.toNat : Int) - 48)) (a : Int) = (dvA a l : Int)
  | [], a, _ => rfl
  | c :: r, a, h => by
    rw [List.all_cons, Bool.and_eq_true] at h
    have hc := h.1
    unfold dgt at hc
    simp at hc
    have ih := dsum_dv r (a * 10 + (c.toNat - 48)) h.2
    rw [List.foldl_cons, show (10 * (a : Int) + ((c.toNat : Int) - 48)) = ((a * 10 + (c.toNat - 48) : Nat) : Int) from by omega, ih]
    rfl
theorem dsum_all (l : Bs) (h : l.all dgt = true) : dsum l l.length = (dvA 0 l : Int) := by
  unfold dsum
  rw [List.take_length]
  exact dsum_dv l 0 h
theorem dd_len : ∀ (k u : Nat), u < 10 ^ (k + 1) → (Lib.decDigits u).length ≤ k + 1
  | 0, u, h => by rw [Lib.decDigits_one (by omega)]; simp
  | k + 1, u, h => by
    rw [Lib.decDigits]
    split
    · simp
    · have := dd_len k (u / 10) (by rw [Nat.pow_succ] at h; omega)
      rw [List.length_append]
      simp
      omega
def can (s : Bs) (v : Int) : Prop := s = Lib.itoa v ∧ -1000000000 ≤ v ∧ v ≤ 1000000000
theorem dd_first (u : Nat) : ∃ c r, Lib.decDigits u = c :: r ∧ dgt c = true := by
  cases hd : Lib.decDigits u with
  | nil => exact absurd hd (dd_ne u)
  | cons c r =>
    have := dd_all u
    rw [hd, List.all_cons, Bool.and_eq_true] at this
    exact ⟨c, r, rfl, this.1⟩
theorem mag_dd (u : Nat) (h : u ≤ 1000000000) : Lib.parseMag (Lib.decDigits u) = .ok u := by
  unfold Lib.parseMag
  rw [if_neg (dd_ne u), parse_dv _ 0 (dd_all u) (by rw [dd_val]; omega), dd_val]
theorem atoi_itoa (v : Int) (h1 : -1000000000 ≤ v) (h2 : v ≤ 1000000000) : Lib.atoiAll (Lib.itoa v) = .ok v := by
  unfold Lib.itoa
  by_cases hv : v < 0
  · rw [if_pos hv]
    unfold Lib.atoiAll
    have : (45 : UInt8).toNat = 45 := rfl
    simp only [this, or_true, if_true, mag_dd v.natAbs (by omega)]
    rw [if_neg (by omega), if_neg (by omega)]
    congr 1
    omega
  · rw [if_neg hv]
    have hm := mag_dd v.toNat (by omega)
    obtain ⟨c, r, e, hc⟩ := dd_first v.toNat
    unfold dgt at hc
    simp at hc
    rw [e] at hm ⊢
    unfold Lib.atoiAll
    simp only
    rw [if_neg (by omega), hm]
    simp only
    rw [if_neg (by omega), if_neg (by omega), if_neg (by omega)]
    congr 1
    omega
theorem numOk_can {s : Bs} {v : Int} (h : can s v) : numOk s = true ∧ numV s = v := by
  obtain ⟨rfl, h1, h2⟩ := h
  unfold numOk numV
  rw [atoi_itoa v h1 h2]
  simp [inn, h1, h2]
theorem can_numOk {s : Bs} (h : numOk s = true) : can s (numV s) := by
  unfold numOk at h
  unfold numV
  cases ha : Lib.atoiAll s with
  | ok v =>
    rw [ha] at h
    simp [inn] at h
    exact ⟨h.1.symm, h.2.1, h.2.2⟩
  | «syntax» => rw [ha] at h; cases h
  | range => rw [ha] at h; cases h
end Go.AL
