/-
  The plain law of AsmReads, first part: cutting a text. No model.
-/
import Derived.Test.YtaoiflliakjhdaaDoorV8
set_option linter.unusedVariables false
set_option linter.unusedSimpArgs false
namespace Go.AL
open Go Go.Proofs

def consH (p : Bs) : List Bs → List Bs
  | [] => [p]
  | h :: t => (p ++ h) :: t
def cuts (c : UInt8) : Bs → List Bs
  | [] => [[]]
  | b :: r => if b = c then [] :: cuts c r else consH [b] (cuts c r)
theorem consH_ne (p : Bs) (l : List Bs) : consH p l ≠ [] := by cases l <;> simp [consH]
theorem cuts_ne (c : UInt8) (s : Bs) : cuts c s ≠ [] := by
  cases s with
  | nil => simp [cuts]
  | cons b r => unfold cuts; split; · simp
                · exact consH_ne _ _
theorem consH_nil {l : List Bs} (h : l ≠ []) : consH [] l = l := by
  cases l with
  | nil => exact absurd rfl h
  | cons a t => rfl
theorem consH_consH (p q : Bs) (l : List Bs) : consH p (consH q l) = consH (p ++ q) l := by
  cases l <;> simp [consH]
theorem rsplit_inv (c : UInt8) (s : Bs) : ∀ i, i ≤ s.length → cuts c s = (spSt c s i).1 ++ consH ((s.take i).drop (spSt c s i).2) (cuts c (s.drop i))
  | 0, _ => by simp [spSt, consH_nil (cuts_ne c s)]
  | i + 1, h => by
    have ih := rsplit_inv c s i (by omega)
    have hi : i < s.length := by omega
    have hle := (spSt_le c s i).1
    have hg : s.getD i 0 = s[i] := by simp [List.getD, hi]
    rw [List.drop_eq_getElem_cons hi] at ih
    rw [ih, show spSt c s (i + 1) = cond (decide (s.getD i 0 = c)) ((spSt c s i).1 ++ [(s.take i).drop (spSt c s i).2], i + 1) (spSt c s i) from rfl]
    rw [hg]
    rw [cuts]
    by_cases hb : s[i] = c
    · rw [if_pos hb, decide_eq_true hb]
      simp only [cond_true]
      rw [show (s.take (i + 1)).drop (i + 1) = [] from by rw [List.drop_eq_nil_iff]; rw [List.length_take]; omega, consH_nil (cuts_ne _ _)]
      simp [consH]
    · rw [if_neg hb, decide_eq_false hb]
      simp only [cond_false]
      rw [consH_consH, List.take_succ_eq_append_getElem hi, List.drop_append_of_le_length (by rw [List.length_take]; omega)]
theorem rsplit_eq (c : UInt8) (s : Bs) : rsplit c s = cuts c s := by
  have := rsplit_inv c s s.length (Nat.le_refl _)
  rw [this]
  simp [rsplit, cuts, consH]
theorem index1_cons (b c : UInt8) (l : Bs) : Lib.index (b :: l) [c] = if b = c then 0 else if Lib.index l [c] = -1 then -1 else Lib.index l [c] + 1 := by
  rw [Lib.index]
  by_cases h : b = c
  · simp [h, List.isPrefixOf]
  · have : ¬ c = b := fun e => h e.symm
    simp [h, this, List.isPrefixOf]
theorem splitK_cons (b c : UInt8) (l : Bs) (h : ¬ b = c) (k : Nat) : Lib.splitK [c] 0 k (b :: l) = consH [b] (Lib.splitK [c] 0 k l) := by
  cases k with
  | zero => rfl
  | succ k =>
    have hge := Lib.index_ge l [c]
    rw [Lib.splitK, Lib.splitK, index1_cons, if_neg h]
    by_cases h1 : Lib.index l [c] = -1
    · simp [h1, consH]
    · have e1 : (Lib.index l [c] + 1 == -1) = false := by simp; omega
      have e2 : (Lib.index l [c] == -1) = false := by simp [h1]
      have e3 : (Lib.index l [c] + 1).toNat = (Lib.index l [c]).toNat + 1 := by omega
      rw [if_neg h1, e1, e2, e3]
      simp [consH]
theorem splitK_eq (c : UInt8) : ∀ (s : Bs) (k : Nat), s.count c ≤ k → Lib.splitK [c] 0 k s = cuts c s
  | [], k, _ => by
    cases k with
    | zero => rfl
    | succ k => simp [Lib.splitK, Lib.index, cuts]
  | b :: l, k, h => by
    rw [cuts]
    by_cases hb : b = c
    · subst hb
      rw [List.count_cons_self] at h
      rw [if_pos rfl]
      cases k with
      | zero => omega
      | succ k =>
        rw [← splitK_eq b l k (by omega), Lib.splitK, index1_cons, if_pos rfl]
        simp
    · rw [if_neg hb, splitK_cons b c l hb, splitK_eq c l k (by rw [List.count_cons_of_ne (by simpa using hb)] at h; exact h)]
theorem countFrom_ge (c : UInt8) : ∀ (n : Nat) (s : Bs), s.length ≤ n → ∀ f, n < f → s.count c ≤ Lib.countFrom [c] f s
  | n, [], _, f, _ => by simp
  | 0, b :: l, h, f, _ => by simp at h
  | n + 1, b :: l, h, f, hf => by
    cases f with
    | zero => omega
    | succ f =>
      rw [Lib.countFrom, index1_cons]
      have hl : l.length ≤ n := by simpa using h
      by_cases hb : b = c
      · subst hb
        rw [if_pos rfl, List.count_cons_self]
        have := countFrom_ge b n l hl f (by omega)
        simp
        omega
      · rw [if_neg hb, List.count_cons_of_ne (by simpa using hb)]
        have ih := countFrom_ge c n l hl (f + 1) (by omega)
        rw [Lib.countFrom] at ih
        have hge := Lib.index_ge l [c]
        by_cases h1 : Lib.index l [c] = -1
        · simpa [h1] using ih
        · have e1 : (Lib.index l [c] + 1 == -1) = false := by simp; omega
          have e2 : (Lib.index l [c] == -1) = false := by simp [h1]
          have e3 : (Lib.index l [c] + 1).toNat = (Lib.index l [c]).toNat + 1 := by omega
          rw [e2] at ih
          rw [if_neg h1, e1, e3]
          simpa using ih
theorem split_eq (c : UInt8) (s : Bs) : Lib.split s [c] = cuts c s :=
  splitK_eq c s _ (countFrom_ge c s.length s (Nat.le_refl _) _ (by omega))
end Go.AL
