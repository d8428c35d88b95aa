/-
  The plain law of AsmReads, second part: names. No model.
-/
import Derived.Test.YtaoiflliakjhdaaDoorV9
import Derived.Laws.RangeString
import Derived.Laws.RangeAny
set_option linter.unusedVariables false
set_option linter.unusedSimpArgs false
namespace Go.AL
open Go Go.Proofs

theorem notN_azn (c : UInt8) : notN c.toNat = !azn c := by
  have : ∀ x : Fin 256, notN x.val = !(!((decide ((x.val : Int) < 97) || decide ((x.val : Int) > 122)) && (decide ((x.val : Int) < 48) || decide ((x.val : Int) > 57)))) := by decide +kernel
  exact this ⟨c.toNat, c.toNat_lt⟩
theorem notN_high (r : Nat) (h : 128 ≤ r) : notN r = true := by
  unfold notN inn
  have e1 : decide ((r : Int) ≤ 122) = false := by simp; omega
  have e2 : decide ((r : Int) ≤ 57) = false := by simp; omega
  simp [e1, e2]
theorem azn_low {c : UInt8} (h : azn c = true) : c.toNat < 128 := by
  unfold azn at h
  simp at h
  omega
theorem get_at (s : Bs) (i : Nat) (h : i < s.length) : ((⟨s.toArray⟩ : ByteArray)[i]'h) = s[i] := rfl
theorem idx_azn (s : Bs) : ∀ (f pos : Nat), s.length - pos ≤ f → pos ≤ s.length → decide (0 ≤ Lib.idxFuncFrom notN true ⟨s.toArray⟩ f pos) = !((s.drop pos).all azn)
  | 0, pos, h, hp => by
    rw [List.drop_of_length_le (by omega)]; rfl
  | f + 1, pos, h, hp => by
    unfold Lib.idxFuncFrom
    have hsz : (⟨s.toArray⟩ : ByteArray).size = s.length := rfl
    by_cases hlt : pos < s.length
    · rw [if_pos (by rw [hsz]; exact hlt), List.drop_eq_getElem_cons hlt, List.all_cons]
      by_cases ha : s[pos].toNat < 128
      · have hd := decode_ascii ⟨s.toArray⟩ pos (by rw [hsz]; exact hlt) (by rw [get_at s pos hlt]; exact ha)
        rw [hd, get_at s pos hlt]
        simp only
        rw [notN_azn]
        cases hz : azn s[pos]
        · simp
        · have ih := idx_azn s f (pos + 1) (by omega) (by omega)
          simp only [Bool.not_true, Bool.true_and]
          rw [← ih]
          simp
      · have hd := decode_high ⟨s.toArray⟩ pos (by rw [hsz]; exact hlt) (by rw [get_at s pos hlt]; omega)
        rw [notN_high _ hd.1]
        have : azn s[pos] = false := by
          cases hz : azn s[pos]
          · rfl
          · exact absurd (azn_low hz) ha
        rw [this]
        simp
    · rw [if_neg (by rw [hsz]; exact hlt), List.drop_of_length_le (by omega)]; rfl
theorem name_eq (s : Bs) : nameP s = rname s := by
  cases s with
  | nil => rfl
  | cons c r =>
    show (inn (r.length + 1 : Nat) 1 12 && (inn c.toNat 97 122 && !decide (0 ≤ Lib.idxFunc notN true ⟨(c :: r).toArray⟩))) = (decide (r.length + 1 ≤ 12) && !decide ((c.toNat : Int) < 97) && !decide ((c.toNat : Int) > 122) && (c :: r).all azn)
    have := idx_azn (c :: r) (c :: r).length 0 (by omega) (by omega)
    rw [List.drop_zero] at this
    have e : Lib.idxFunc notN true ⟨(c :: r).toArray⟩ = Lib.idxFuncFrom notN true ⟨(c :: r).toArray⟩ (c :: r).length 0 := rfl
    rw [e, this, Bool.not_not]
    generalize (c :: r).all azn = z
    unfold inn
    rw [Bool.eq_iff_iff]
    cases z
    · simp
    · simp
      omega
end Go.AL
