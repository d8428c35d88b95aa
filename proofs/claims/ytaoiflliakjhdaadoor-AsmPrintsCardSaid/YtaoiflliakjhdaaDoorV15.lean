/-
  The plain law of AsmReads, seventh part: the labels. No model.
-/
import Derived.Test.YtaoiflliakjhdaaDoorV14
set_option linter.unusedVariables false
set_option linter.unusedSimpArgs false
namespace Go.AL
open Go Go.Proofs

theorem suf1 (l : Bs) (c : UInt8) : Lib.hasSuffix l [c] = match l.getLast? with | some d => decide (d = c) | none => false := by
  rcases List.eq_nil_or_concat l with rfl | ⟨i, d, rfl⟩
  · rfl
  · rw [List.concat_eq_append, List.getLast?_concat]
    rw [Bool.eq_iff_iff]
    show [c].isSuffixOf (i ++ [d]) = true ↔ decide (d = c) = true
    rw [List.isSuffixOf_iff_suffix, decide_eq_true_iff]
    constructor
    · rintro ⟨t, ht⟩
      have := List.append_inj' ht rfl
      have := this.2
      simp at this
      exact this.symm
    · rintro rfl
      exact ⟨i, rfl⟩
theorem bare_end (l : Bs) : bare (l ++ [10]) = l := by
  unfold bare Lib.trimSuffix
  rw [suf1, List.getLast?_concat]
  simp
theorem ended_end (l : Bs) : ended (l ++ [10]) = true := by
  unfold ended
  rw [suf1, List.getLast?_concat]
  simp
theorem isLab_eq (l : Bs) : isLab l = rlab l := by
  unfold isLab rlab
  exact suf1 l 58
theorem labName_eq (l : Bs) (h : rlab l = true) : labName l = l.dropLast ∧ l = l.dropLast ++ [58] := by
  have h1 := isLab_eq l
  rw [h] at h1
  unfold isLab at h1
  unfold labName Lib.trimSuffix
  rw [if_pos h1]
  refine ⟨by rw [List.dropLast_eq_take]; rfl, ?_⟩
  unfold rlab at h
  rcases List.eq_nil_or_concat l with rfl | ⟨i, d, rfl⟩
  · cases h
  · rw [List.concat_eq_append, List.getLast?_concat] at h
    have : d = 58 := by simpa using h
    simp [this]
theorem rlab_end (w : Bs) : rlab (w ++ [58]) = true := by
  unfold rlab
  rw [List.getLast?_concat]; rfl
theorem cuts_no (c : UInt8) : ∀ s, ∀ l ∈ cuts c s, c ∉ l
  | [], l, h => by
    have : l = [] := by simpa [cuts] using h
    rw [this]; simp
  | b :: r, l, h => by
    have ih := cuts_no c r
    rw [cuts] at h
    by_cases hb : b = c
    · rw [if_pos hb] at h
      rcases List.mem_cons.1 h with rfl | h
      · simp
      · exact ih l h
    · rw [if_neg hb] at h
      cases hk : cuts c r with
      | nil => exact absurd hk (cuts_ne c r)
      | cons a t =>
        rw [hk] at h ih
        simp only [consH] at h
        rcases List.mem_cons.1 h with rfl | h
        · intro hc
          rcases List.mem_cons.1 hc with e | hc
          · exact hb e.symm
          · exact ih a (by simp) hc
        · exact ih l (List.mem_cons_of_mem _ h)
theorem no_end {l : Bs} (h : (10 : UInt8) ∉ l) : ended l = false ∧ bare l = l := by
  have e : Lib.hasSuffix l [10] = false := by
    rw [suf1]
    cases hg : l.getLast? with
    | none => rfl
    | some d =>
      have := List.mem_of_getLast? hg
      have : ¬ d = 10 := fun e => h (e ▸ this)
      simp [this]
  refine ⟨e, ?_⟩
  unfold bare Lib.trimSuffix
  rw [e]; rfl
theorem chk_eq : ∀ (ls : List Bs) (x : Bs), chk (ls ++ [x]) = ls.map (· ++ [10]) ++ (if x = [] then [] else [x])
  | [], x => by simp [chk]
  | [l], x => by simp [chk]
  | l :: g :: t, x => by
    have ih := chk_eq (g :: t) x
    simp only [List.cons_append] at ih ⊢
    rw [chk, ih]
    simp
/-- the lines on both sides -/
theorem lines_split (s : Bs) : ∃ x, rsplit 10 s = rlines s ++ [x] ∧ chunks s = (rlines s).map (· ++ [10]) ++ (if x = [] then [] else [x]) ∧ (10 : UInt8) ∉ x := by
  have hne := cuts_ne 10 s
  refine ⟨(cuts 10 s).getLast hne, ?_, ?_, ?_⟩
  · unfold rlines
    rw [rsplit_eq, List.dropLast_concat_getLast]
  · rw [chunks_eq]
    unfold rlines
    rw [rsplit_eq]
    rw [← chk_eq, List.dropLast_concat_getLast]
  · exact cuts_no 10 s _ (List.getLast_mem hne)
theorem lab_inv (ls : List Bs) : ∀ k, k ≤ ls.length → (labSt (ls.map (· ++ [10])) k).2 = nl ls k ∧ ∀ w, (labSt (ls.map (· ++ [10])) k).1.lookup w = ((ls.take k).findIdx? (fun l => decide (l = w ++ [58]))).map (nl ls)
  | 0, _ => ⟨by simp [labSt, nl], fun w => by simp [labSt]⟩
  | k + 1, h => by
    obtain ⟨ih1, ih2⟩ := lab_inv ls k (by omega)
    have hk : k < ls.length := by omega
    have hkm : k < (ls.map (· ++ [10])).length := by simpa using hk
    rw [labSt_succ hkm]
    have hg : (ls.map (· ++ [10]))[k] = ls[k] ++ [10] := by simp
    rw [hg]
    generalize labSt (ls.map (· ++ [10])) k = st at *
    obtain ⟨m, n⟩ := st
    simp only at ih1 ih2
    unfold stepL
    rw [bare_end, ended_end, isLab_eq, nl_succ hk, ih1]
    refine ⟨rfl, fun w => ?_⟩
    have hw := ih2 w
    rw [List.take_succ_eq_append_getElem hk, List.findIdx?_append]
    have hlen : (ls.take k).length = k := by rw [List.length_take]; omega
    rw [hlen]
    generalize (ls.take k).findIdx? (fun l => decide (l = w ++ [58])) = q at *
    simp only [Bool.true_and]
    cases hr : rlab ls[k] with
    | false =>
      have hn : ¬ ls[k] = w ++ [58] := fun e => by rw [e, rlab_end] at hr; cases hr
      simp only [Bool.false_and, cond_false, List.findIdx?_cons, List.findIdx?_nil, decide_eq_false hn]
      rw [hw]
      cases q <;> simp
    | true =>
      obtain ⟨hd, hl⟩ := labName_eq ls[k] hr
      have hp : decide (ls[k] = w ++ [58]) = decide (labName ls[k] = w) := by
        rw [hd]
        by_cases e : ls[k].dropLast = w
        · rw [decide_eq_true e, decide_eq_true]
          rw [← e]; exact hl
        · rw [decide_eq_false e, decide_eq_false]
          intro e2
          apply e
          rw [e2]; simp
      simp only [Bool.true_and, List.findIdx?_cons, List.findIdx?_nil, hp]
      generalize labName ls[k] = d at *
      by_cases e : d = w
      · subst e
        simp only [decide_true]
        cases q with
        | some i => rw [hw]; simp [hw]
        | none =>
          rw [hw]
          simp only [Option.map_none, Option.isSome_none, Bool.not_false, cond_true]
          rw [List.lookup_append, hw]
          simp [List.lookup]
      · have e2 : (w == d) = false := by simp; exact fun h => e h.symm
        simp only [decide_eq_false e]
        cases (m.lookup d).isSome
        · simp only [Bool.not_false, cond_true]
          rw [List.lookup_append, hw]
          cases q <;> simp [List.lookup, e2]
        · simp only [Bool.not_true, cond_false]
          rw [hw]
          cases q <;> simp
end Go.AL
