/-
  The plain law of AsmReads, third part: numerals. No model.
-/
import Derived.Test.YtaoiflliakjhdaaDoorV10
set_option linter.unusedVariables false
set_option linter.unusedSimpArgs false
namespace Go.AL
open Go Go.Proofs

def dgt (c : UInt8) : Bool := decide (48 ≤ c.toNat) && decide (c.toNat ≤ 57)
def dvA (a : Nat) (l : Bs) : Nat := l.foldl (fun n c => n * 10 + (c.toNat - 48)) a
theorem dvA_ge (l : Bs) : ∀ a, a ≤ dvA a l := by
  induction l with
  | nil => intro a; exact Nat.le_refl _
  | cons c r ih => intro a; have := ih (a * 10 + (c.toNat - 48)); simp only [dvA, List.foldl_cons] at this ⊢; omega
theorem dvA_snoc (a : Nat) (l : Bs) (c : UInt8) : dvA a (l ++ [c]) = dvA a l * 10 + (c.toNat - 48) := by simp [dvA]
theorem parse_dv : ∀ (l : Bs) (a : Nat), l.all dgt = true → dvA a l < 10000000000000000000 → Lib.parseUint10 a l = .ok (dvA a l)
  | [], a, _, _ => rfl
  | c :: r, a, h, hb => by
    rw [List.all_cons, Bool.and_eq_true] at h
    have hc := h.1
    unfold dgt at hc
    simp at hc
    have hge := dvA_ge r (a * 10 + (c.toNat - 48))
    have e : dvA a (c :: r) = dvA (a * 10 + (c.toNat - 48)) r := rfl
    rw [e] at hb ⊢
    rw [Lib.parseUint10, if_pos hc, if_neg (by omega), if_neg (by omega)]
    exact parse_dv r _ h.2 hb
theorem dgt_of (u : Nat) (h : u < 10) : dgt (UInt8.ofNat (48 + u)) = true ∧ (UInt8.ofNat (48 + u)).toNat = 48 + u := by
  have e : (UInt8.ofNat (48 + u)).toNat = 48 + u := by rw [UInt8.toNat_ofNat']; omega
  refine ⟨?_, e⟩
  unfold dgt
  rw [e]
  simp
  omega
theorem dd_all : ∀ u, (Lib.decDigits u).all dgt = true := by
  intro u
  induction u using Nat.strongRecOn with
  | _ u ih =>
    rw [Lib.decDigits]
    split
    · rename_i h
      simp only [List.all_cons, List.all_nil, (dgt_of u h).1, Bool.and_self]
    · rename_i h
      rw [List.all_append, ih (u / 10) (by omega)]
      simp only [List.all_cons, List.all_nil, (dgt_of (u % 10) (by omega)).1, Bool.and_self]
theorem dd_val : ∀ u, dvA 0 (Lib.decDigits u) = u := by
  intro u
  induction u using Nat.strongRecOn with
  | _ u ih =>
    rw [Lib.decDigits]
    split
    · rename_i h
      show 0 * 10 + ((UInt8.ofNat (48 + u)).toNat - 48) = u
      rw [(dgt_of u h).2]
      omega
    · rename_i h
      rw [dvA_snoc, ih (u / 10) (by omega), (dgt_of (u % 10) (by omega)).2]
      omega
theorem dd_ne (u : Nat) : Lib.decDigits u ≠ [] := by
  rw [Lib.decDigits]; split <;> simp
theorem dgt_back {c : UInt8} (h : dgt c = true) : UInt8.ofNat (48 + (c.toNat - 48)) = c ∧ c.toNat - 48 < 10 := by
  unfold dgt at h
  simp at h
  refine ⟨?_, by omega⟩
  rw [show 48 + (c.toNat - 48) = c.toNat from by omega]
  exact UInt8.ofNat_toNat
theorem dd_canon : ∀ (n : Nat) (l : Bs), l.length = n → l ≠ [] → l.all dgt = true → (l.head? = some 48 → l.length = 1) → Lib.decDigits (dvA 0 l) = l := by
  intro n
  induction n with
  | zero => intro l h hne; exact absurd (List.length_eq_zero_iff.1 h) hne
  | succ n ih =>
    intro l h hne ha hh
    obtain ⟨i, c, rfl⟩ : ∃ i c, l = i ++ [c] := ⟨l.dropLast, l.getLast hne, (List.dropLast_concat_getLast hne).symm⟩
    rw [List.all_append, Bool.and_eq_true] at ha
    have hc : dgt c = true := by simpa using ha.2
    obtain ⟨hb, hl⟩ := dgt_back hc
    rw [dvA_snoc]
    cases i with
    | nil =>
      rw [show dvA 0 [] * 10 + (c.toNat - 48) = c.toNat - 48 from by simp [dvA], Lib.decDigits_one hl, hb]; rfl
    | cons b t =>
      have h48 : b ≠ 48 := fun e => by
        have := hh (by simp [e])
        simp at this
      have e := ih (b :: t) (by simpa using h) (by simp) ha.1 (fun e => absurd (by simpa using e) h48)
      have hp : 1 ≤ dvA 0 (b :: t) := by
        rcases Nat.eq_zero_or_pos (dvA 0 (b :: t)) with h0 | h0
        · rw [h0, Lib.decDigits_one (by omega)] at e
          injection e with e1 e2
          exact absurd (by rw [← e1]; rfl) h48
        · exact h0
      rw [Lib.decDigits, dif_neg (by omega)]
      rw [show (dvA 0 (b :: t) * 10 + (c.toNat - 48)) / 10 = dvA 0 (b :: t) from by omega, show (dvA 0 (b :: t) * 10 + (c.toNat - 48)) % 10 = c.toNat - 48 from by omega, e, hb]
theorem dd_head : ∀ u, (Lib.decDigits u).head? = some 48 → u = 0 := by
  intro u
  induction u using Nat.strongRecOn with
  | _ u ih =>
    intro h
    rw [Lib.decDigits] at h
    split at h
    · rename_i h1
      have e := (dgt_of u h1).2
      rw [List.head?_cons] at h
      injection h with h
      rw [h] at e
      have : (48 : UInt8).toNat = 48 := rfl
      omega
    · rename_i h1
      have hne := dd_ne (u / 10)
      cases hd : Lib.decDigits (u / 10) with
      | nil => exact absurd hd hne
      | cons a t =>
        rw [hd] at h
        have := ih (u / 10) (by omega) (by rw [hd]; simpa using h)
        omega
end Go.AL
