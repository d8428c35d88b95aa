/-
  The plain law of AsmBack, second part: what is printed is read back. No model.
-/
import Derived.Test.YtaoiflliakjhdaaDoorV19
set_option linter.unusedVariables false
set_option linter.unusedSimpArgs false
namespace Go.AL
open Go Go.Proofs

theorem inn_iff {v a b : Int} : inn v a b = true ↔ a ≤ v ∧ v ≤ b := by
  unfold inn; simp
theorem rop_pr_r (ls : List Bs) {v : Int} (h0 : 0 ≤ v) (h7 : v ≤ 7) : rop ls 114 (prW 114 v) = (v, 0) := by
  obtain ⟨n, rfl⟩ : ∃ n : Nat, v = n := ⟨v.toNat, by omega⟩
  have hn : n ≤ 7 := by omega
  unfold prW pfx
  rw [itoa_nat, Lib.decDigits_one (by omega)]
  show rdR [114, UInt8.ofNat (48 + n)] = _
  have e := (dgt_of n (by omega)).2
  show cond (decide ((114 : UInt8).toNat = 114)) (cond (inn (UInt8.ofNat (48 + n)).toNat 48 55) (((UInt8.ofNat (48 + n)).toNat : Int) - 48, 0) (0, 3)) (0, 3) = _
  have e2 : ((UInt8.ofNat (48 + n)).toNat : Int) = 48 + n := by rw [e]; omega
  rw [e2]
  have h1 : inn (48 + (n : Int)) 48 55 = true := inn_iff.2 ⟨by omega, by omega⟩
  rw [h1]
  show ((48 + (n : Int)) - 48, (0 : Int)) = _
  congr 1
  omega
theorem rop_pr_n (ls : List Bs) {v : Int} (h0 : -1000000000 ≤ v) (h7 : v ≤ 1000000000) : rop ls 110 (prW 110 v) = (v, 0) := by
  show ropN (prW 110 v) = _
  have e : prW 110 v = Lib.itoa v := rfl
  unfold ropN
  rw [e, rnum_can ⟨rfl, h0, h7⟩]
  rfl
theorem rop_pr_t (ls : List Bs) {n : Nat} (hn : n ≤ 1000) (ht : rtarget ls (lname n) = ((n : Int), true)) : rop ls 116 (prW 116 n) = ((n : Int), 0) := by
  show ropT ls (lname n) = _
  unfold ropT
  rw [lname_name hn, ht]; rfl
/-- the labels stand where they should -/
def AllAt (l : List Ins) (ls : List Bs) : Prop := ∀ n : Nat, n ≤ l.length → isT l n = true → rtarget ls (lname n) = ((n : Int), true)
theorem rop_pr {l : List Ins} {ls : List Bs} (hl : l.length ≤ 1000) (hA : AllAt l ls) {c : UInt8} {v : Int} (hc : c = 114 ∨ c = 110 ∨ c = 116) (hm : mayV (some c) l.length v = true) (hT : c = 116 → isT l v = true) : rop ls c (prW c v) = (v, 0) := by
  unfold mayV lim at hm
  rcases hc with rfl | rfl | rfl
  · obtain ⟨h0, h7⟩ := inn_iff.1 hm
    exact rop_pr_r ls h0 h7
  · obtain ⟨h0, h7⟩ := inn_iff.1 hm
    exact rop_pr_n ls h0 h7
  · obtain ⟨h0, h7⟩ := inn_iff.1 hm
    have h0 : 0 ≤ v := h0
    have h7 : v ≤ (l.length : Int) := h7
    obtain ⟨n, rfl⟩ : ∃ n : Nat, v = n := ⟨v.toNat, by omega⟩
    exact rop_pr_t ls (by omega) (hA n (by omega) (hT rfl))
theorem mayI_op {n : Nat} {i : Ins} (h : mayI n i = true) : ∃ k : Nat, k < 27 ∧ i.op = k := by
  unfold mayI at h
  rw [Bool.and_eq_true] at h
  obtain ⟨h1, h2⟩ := inn_iff.1 h.1
  exact ⟨i.op.toNat, by omega, by omega⟩
theorem mayI_val {n : Nat} {i : Ins} (h : mayI n i = true) : mayV (kdO i.op.toNat)[0]? n i.a = true ∧ mayV (kdO i.op.toNat)[1]? n i.b = true ∧ mayV (kdO i.op.toNat)[2]? n i.c = true := by
  unfold mayI at h
  simp only [Bool.and_eq_true] at h
  exact ⟨h.2.1, h.2.2.1, h.2.2.2⟩
theorem mayV_none {n : Nat} {v : Int} (h : mayV none n v = true) : v = 0 := by
  obtain ⟨h1, h2⟩ := inn_iff.1 h
  have h1 : 0 ≤ v := h1
  have h2 : v ≤ 0 := h2
  omega
/-- the line of an instruction that may be reads as it -/
theorem prL_ok {l : List Ins} {ls : List Bs} (hl : l.length ≤ 1000) (hA : AllAt l ls) {i : Ins} (hi : i ∈ l) (hm : mayI l.length i = true) : LineOk ls (prL i) i.op.toNat (List.zipWith prW (kdO i.op.toNat) (vals3 i)) ∧ insOf ls i.op.toNat (List.zipWith prW (kdO i.op.toNat) (vals3 i)) = i := by
  obtain ⟨k, hk, hop⟩ := mayI_op hm
  have hko : i.op.toNat = k := by omega
  obtain ⟨ma, mb, mc⟩ := mayI_val hm
  have hkl := prL_words (i := i) (by omega)
  have hko' := hko
  rw [hko] at ma mb mc hkl ⊢
  obtain ⟨hlen, hall⟩ := kd_of k hk
  have hkd : kdO k = (at' opsT (k : Int)).2 := rfl
  have hwl : (List.zipWith prW (kdO k) (vals3 i)).length = (kdO k).length := by
    rw [List.length_zipWith]
    show min (kdO k).length 3 = _
    omega
  have hv : ∀ q, q < (kdO k).length → ∃ v, (vals3 i)[q]? = some v ∧ mayV (kdO k)[q]? l.length v = true := fun q hq => by
    match q, hq with
    | 0, _ => exact ⟨_, rfl, ma⟩
    | 1, _ => exact ⟨_, rfl, mb⟩
    | 2, _ => exact ⟨_, rfl, mc⟩
    | q + 3, hq => omega
  have hrop : ∀ q, q < (kdO k).length → rop ls ((kdO k).getD q 0) ((List.zipWith prW (kdO k) (vals3 i)).getD q []) = ((vals3 i).getD q 0, 0) := fun q hq => by
    obtain ⟨v, h1, h2⟩ := hv q hq
    have hc : (kdO k)[q]? = some (kdO k)[q] := List.getElem?_eq_getElem hq
    have e1 : (kdO k).getD q 0 = (kdO k)[q] := by simp [List.getD, hc]
    have e2 : (vals3 i).getD q 0 = v := by simp [List.getD, h1]
    have e3 : (List.zipWith prW (kdO k) (vals3 i)).getD q [] = prW (kdO k)[q] v := by
      simp [List.getD, List.getElem?_zipWith, hc, h1]
    rw [e1, e2, e3]
    rw [hc] at h2
    have hcc : (kdO k)[q] = 114 ∨ (kdO k)[q] = 110 ∨ (kdO k)[q] = 116 := by
      have := List.all_eq_true.1 hall _ (List.getElem_mem hq)
      simpa using this
    refine rop_pr hl hA hcc h2 fun hc6 => ?_
    unfold isT
    rw [List.any_eq_true]
    refine ⟨i, hi, ?_⟩
    unfold hasT
    rw [List.any_eq_true]
    refine ⟨((kdO k)[q], v), ?_, by simp [hc6]⟩
    rw [hko']
    exact List.mem_of_getElem? (i := q) (by rw [List.getElem?_zip_eq_some]; exact ⟨hc, h1⟩)
  have hz : ∀ q, q < (kdO k).length → (rop ls ((kdO k).getD q 0) ((List.zipWith prW (kdO k) (vals3 i)).getD q [])).2 = 0 := fun q hq => by rw [hrop q hq]
  refine ⟨⟨hk, ⟨nm k, hkl, (nm_wch k hk).2.2⟩, hwl, hz⟩, ?_⟩
  have hg : ∀ q, (rAll ls (kdO k) (List.zipWith prW (kdO k) (vals3 i))).1.getD q 0 = cond (decide (q < (kdO k).length)) ((vals3 i).getD q 0) 0 := fun q => by
    rw [rAll_get hwl hz]
    by_cases hq : q < (kdO k).length
    · rw [hrop q hq]
    · rw [decide_eq_false hq]; rfl
  have fin : ∀ q v, (vals3 i).getD q 0 = v → (mayV (kdO k)[q]? l.length v = true) → (rAll ls (kdO k) (List.zipWith prW (kdO k) (vals3 i))).1.getD q 0 = v := fun q v h1 h2 => by
    rw [hg]
    by_cases hq : q < (kdO k).length
    · rw [decide_eq_true hq]; exact h1
    · rw [decide_eq_false hq]
      rw [List.getElem?_eq_none (by omega)] at h2
      exact (mayV_none h2).symm
  unfold insOf
  rw [← hkd, fin 0 i.a rfl ma, fin 1 i.b rfl mb, fin 2 i.c rfl mc, ← hop]
/-! the lines -/
theorem pls_succ (l : List Ins) (k : Nat) : pls l (k + 1) = pls l k ++ (labL l k ++ [prL (l.getD k default)]) := by
  unfold pls
  rw [List.range_succ, List.flatMap_append]
  simp
theorem plines_at (l : List Ins) : ∀ k, k ≤ l.length → ∃ B, plines l = pls l k ++ (labL l k ++ B) := by
  intro k hk
  have : ∀ d, ∃ B, pls l (k + d) ++ labL l (k + d) = pls l k ++ (labL l k ++ B) := by
    intro d
    induction d with
    | zero => exact ⟨[], by simp⟩
    | succ d ih =>
      obtain ⟨B, hB⟩ := ih
      refine ⟨B ++ ([prL (l.getD (k + d) default)] ++ labL l (k + (d + 1))), ?_⟩
      rw [show k + (d + 1) = k + d + 1 from rfl, pls_succ]
      simp only [← List.append_assoc] at hB ⊢
      rw [hB]
  obtain ⟨B, hB⟩ := this (l.length - k)
  rw [show k + (l.length - k) = l.length by omega] at hB
  exact ⟨B, hB⟩
theorem op_lt {l : List Ins} (hr : l.all (mayI l.length) = true) {k : Nat} (hk : k < l.length) : (l.getD k default).op.toNat < 27 ∧ mayI l.length (l.getD k default) = true ∧ l.getD k default ∈ l := by
  have e : l.getD k default = l[k] := by simp [List.getD, hk]
  have hm := List.all_eq_true.1 hr _ (List.getElem_mem hk)
  rw [e]
  obtain ⟨q, hq, ho⟩ := mayI_op hm
  exact ⟨by omega, hm, List.getElem_mem hk⟩
theorem pls_mem {l : List Ins} (hr : l.all (mayI l.length) = true) : ∀ k, k ≤ l.length → ∀ x ∈ pls l k, (∃ j, j < k ∧ x = lname j ++ [58]) ∨ (58 : UInt8) ∉ x
  | 0, _, x, h => by simp [pls] at h
  | k + 1, hk, x, h => by
    rw [pls_succ] at h
    rcases List.mem_append.1 h with h | h
    · rcases pls_mem hr k (by omega) x h with ⟨j, hj, e⟩ | h2
      · exact .inl ⟨j, by omega, e⟩
      · exact .inr h2
    · rcases List.mem_append.1 h with h | h
      · unfold labL at h
        cases hT : isT l (k : Int) with
        | false => rw [hT] at h; simp at h
        | true =>
          rw [hT] at h
          exact .inl ⟨k, by omega, by simpa using h⟩
      · rw [List.mem_singleton.1 h]
        exact .inr (prL_no (op_lt hr (by omega)).1 (by decide) (by decide))
theorem pls_nolab {l : List Ins} (hr : l.all (mayI l.length) = true) {k : Nat} (hk : k ≤ l.length) : ∀ x ∈ pls l k, x ≠ lname k ++ [58] := fun x hx e => by
  rcases pls_mem hr k hk x hx with ⟨j, hj, e2⟩ | h2
  · rw [e] at e2
    have := List.append_cancel_right e2
    exact absurd (lname_inj this) (by omega)
  · exact h2 (by rw [e]; simp)
theorem labL_len (l : List Ins) (k : Nat) : (labL l k).filter (fun x => !rlab x) = [] := by
  unfold labL
  cases isT l (k : Int)
  · rfl
  · show [lname k ++ [58]].filter _ = _
    rw [List.filter_cons, rlab_end]; rfl
theorem pls_count {l : List Ins} (hr : l.all (mayI l.length) = true) : ∀ k, k ≤ l.length → ((pls l k).filter fun x => !rlab x).length = k
  | 0, _ => by simp [pls]
  | k + 1, hk => by
    have ih := pls_count hr k (by omega)
    rw [pls_succ, List.filter_append, List.filter_append, labL_len, List.length_append, ih]
    rw [List.filter_cons, prL_lab (op_lt hr (show k < l.length by omega)).1]
    rfl
theorem all_at {l : List Ins} (hr : l.all (mayI l.length) = true) : AllAt l (plines l) := fun n hn hT => by
  obtain ⟨B, hB⟩ := plines_at l n hn
  unfold labL at hB
  rw [hT] at hB
  simp only [cond_true] at hB
  unfold rtarget
  have hf : (plines l).findIdx? (fun x => decide (x = lname n ++ [58])) = some (pls l n).length := by
    rw [hB, List.findIdx?_append]
    have h0 : (pls l n).findIdx? (fun x => decide (x = lname n ++ [58])) = none := by
      rw [List.findIdx?_eq_none_iff]
      intro x hx
      exact decide_eq_false (pls_nolab hr hn x hx)
    rw [h0]
    simp [List.findIdx?_cons]
  rw [hf]
  have : nl (plines l) (pls l n).length = n := by
    unfold nl
    rw [hB, List.take_left, pls_count hr n hn]
  show (nl (plines l) (pls l n).length, true) = _
  rw [this]
/-- one line more, a label -/
theorem step_lab {ls A B : List Bs} {n : Nat} (h : ls = A ++ (lname n ++ [58]) :: B) (hn : n ≤ 1000) (hno : ∀ x ∈ A, x ≠ lname n ++ [58]) : rpSt ls (A.length + 1) = rpSt ls A.length ∧ rpE ls A.length = 0 := by
  have hlt : A.length < ls.length := by rw [h]; simp
  have hg : ls[A.length] = lname n ++ [58] := by simp [h]
  refine ⟨by rw [rpSt_succ hlt, hg, rlab_end]; rfl, ?_⟩
  unfold rpE
  rw [getD_at hlt, hg, rlab_end, List.dropLast_concat, lname_name hn, h, List.take_left]
  have : (A.any fun l => decide (l = lname n ++ [58])) = false := by
    rw [List.any_eq_false]
    intro x hx
    simpa using hno x hx
  rw [this]; rfl
/-- one line more, an instruction -/
theorem step_ins {l : List Ins} {A B : List Bs} (hl : l.length ≤ 1000) (hr : l.all (mayI l.length) = true) {i : Ins} (hi : i ∈ l) (h : plines l = A ++ prL i :: B) (hn : (rpSt (plines l) A.length).length < 1000) : rpSt (plines l) (A.length + 1) = rpSt (plines l) A.length ++ [i] ∧ rpE (plines l) A.length = 0 := by
  have hm := List.all_eq_true.1 hr i hi
  obtain ⟨k, hk, ho⟩ := mayI_op hm
  have hlt : A.length < (plines l).length := by rw [h]; simp
  have hg : (plines l)[A.length] = prL i := by simp [h]
  obtain ⟨h1, h2⟩ := prL_ok hl (all_at hr) hi hm
  have e := rinstr_of h1 (rpSt (plines l) A.length).length
  rw [decide_eq_false (by omega), h2] at e
  have hlab := prL_lab (i := i) (by omega)
  refine ⟨by rw [rpSt_succ hlt, hg, hlab, e]; rfl, ?_⟩
  unfold rpE
  rw [getD_at hlt, hg, hlab, e]; rfl
theorem lines_read {l : List Ins} (hl : l.length ≤ 1000) (hr : l.all (mayI l.length) = true) : ∀ k, k ≤ l.length → rpSt (plines l) (pls l k).length = l.take k ∧ ∀ q, q < (pls l k).length → rpE (plines l) q = 0
  | 0, _ => ⟨by simp [pls, rpSt], fun q h => absurd h (by simp [pls])⟩
  | k + 1, hk => by
    obtain ⟨i1, i2⟩ := lines_read hl hr k (by omega)
    obtain ⟨_, hm, hi⟩ := op_lt hr (show k < l.length by omega)
    obtain ⟨B, hB⟩ := plines_at l (k + 1) hk
    rw [pls_succ] at hB
    have ht : l.take (k + 1) = l.take k ++ [l.getD k default] := by
      rw [List.take_succ_eq_append_getElem (by omega)]
      simp [List.getD, show k < l.length by omega]
    have hlen : (rpSt (plines l) (pls l k).length).length = k := by rw [i1, List.length_take]; omega
    rw [pls_succ]
    have hLcase : (labL l k = [] ∨ labL l k = [lname k ++ [58]]) := by
      unfold labL
      cases isT l (k : Int)
      · exact .inl rfl
      · exact .inr rfl
    rcases hLcase with hL | hL
    · rw [hL] at hB ⊢
      simp only [List.nil_append, List.append_assoc, List.singleton_append] at hB ⊢
      obtain ⟨s1, s2⟩ := step_ins hl hr hi hB (by omega)
      refine ⟨?_, fun q hq => ?_⟩
      · rw [List.length_append, List.length_singleton, s1, i1, ht]
      · rw [List.length_append, List.length_singleton] at hq
        by_cases e : q = (pls l k).length
        · rw [e]; exact s2
        · exact i2 q (by omega)
    · rw [hL] at hB ⊢
      simp only [List.append_assoc, List.singleton_append, List.cons_append, List.nil_append] at hB ⊢
      obtain ⟨t1, t2⟩ := step_lab hB (by omega) (pls_nolab hr (by omega))
      have hB2 : plines l = (pls l k ++ [lname k ++ [58]]) ++ prL (l.getD k default) :: (labL l (k + 1) ++ B) := by rw [hB]; simp
      have hl2 : (pls l k ++ [lname k ++ [58]]).length = (pls l k).length + 1 := by simp
      obtain ⟨s1, s2⟩ := step_ins hl hr hi hB2 (by rw [hl2, t1]; omega)
      rw [hl2] at s1 s2
      refine ⟨?_, fun q hq => ?_⟩
      · rw [List.length_append]
        show rpSt _ ((pls l k).length + 1 + 1) = _
        rw [s1, t1, i1, ht]
      · rw [List.length_append] at hq
        simp only [List.length_cons, List.length_nil] at hq
        by_cases e : q = (pls l k).length
        · rw [e]; exact t2
        · by_cases e2 : q = (pls l k).length + 1
          · rw [e2]; exact s2
          · exact i2 q (by omega)
theorem prL_len {i : Ins} {n : Nat} (h : mayI n i = true) (hn : n ≤ 1000000000) : (prL i).length ≤ 44 := by
  obtain ⟨k, hk, ho⟩ := mayI_op h
  have hko : i.op.toNat = k := by omega
  obtain ⟨ma, mb, mc⟩ := mayI_val h
  have h5 := (nm_wch k hk).2.1
  have hb : ∀ (c : Option UInt8) v, mayV c n v = true → bd v := fun c v hm => by
    obtain ⟨h1, h2⟩ := inn_iff.1 hm
    unfold lim at h1 h2
    cases c with
    | none => exact ⟨by simp at h1; omega, by simp at h2; omega⟩
    | some c =>
      simp only at h1 h2
      generalize decide (c = 114) = b1 at *
      generalize decide (c = 110) = b2 at *
      cases b1 <;> cases b2 <;> simp at h1 h2 <;> exact ⟨by omega, by omega⟩
  have hw : ∀ c v, bd v → (32 :: prW c v).length ≤ 13 := fun c v hv => by
    have := itoa_len hv
    unfold prW pfx
    cases decide (c = 114)
    · cases decide (c = 116) <;> simp <;> omega
    · simp; omega
  unfold prL
  rw [hko, List.length_append]
  rw [hko] at ma mb mc
  have hf : ((List.zipWith prW (kdO k) (vals3 i)).flatMap (32 :: ·)).length ≤ 39 := by
    unfold vals3
    have ba := hb _ _ ma
    have bb := hb _ _ mb
    have bc := hb _ _ mc
    match kdO k with
    | [] => simp
    | [c] => have := hw c _ ba; simp at this ⊢; omega
    | [c, d] => have := hw c _ ba; have := hw d _ bb; simp at *; omega
    | c :: d :: e :: r =>
      have := hw c _ ba; have := hw d _ bb; have := hw e _ bc
      simp at *; omega
  show (nm k).length + _ ≤ _
  omega
theorem labL_chars (l : List Ins) (n : Nat) (hn : n ≤ 1000000000) : ((labL l n).flatMap (· ++ [10])).length ≤ 14 := by
  have := itoa_len (v := (n : Int)) ⟨by omega, by omega⟩
  unfold labL lname
  cases isT l (n : Int)
  · simp
  · simp; omega
theorem pls_chars {l : List Ins} (hl : l.length ≤ 1000) (hr : l.all (mayI l.length) = true) : ∀ k, k ≤ l.length → ((pls l k).flatMap (· ++ [10])).length ≤ 59 * k
  | 0, _ => by simp [pls]
  | k + 1, hk => by
    have ih := pls_chars hl hr k (by omega)
    obtain ⟨_, hm, _⟩ := op_lt hr (show k < l.length by omega)
    have h1 := prL_len hm (by omega)
    have h2 := labL_chars l k (by omega)
    rw [pls_succ, List.flatMap_append, List.flatMap_append, List.length_append, List.length_append]
    simp only [List.flatMap_cons, List.flatMap_nil, List.append_nil, List.length_append, List.length_singleton]
    omega
theorem back_eq {l : List Ins} (hl : l.length ≤ 600) (hr : l.all (mayI l.length) = true) : rparse (rprint l) = (l, 0, 0) := by
  have hl' : l.length ≤ 1000 := by omega
  obtain ⟨i1, i2⟩ := lines_read hl' hr l.length (Nat.le_refl _)
  rw [List.take_length] at i1
  have hno : ∀ x ∈ plines l, (10 : UInt8) ∉ x := by
    intro x hx
    have key : ∀ k, k ≤ l.length → ∀ x ∈ pls l k, (10 : UInt8) ∉ x := by
      intro k
      induction k with
      | zero => intro _ x h; simp [pls] at h
      | succ k ih =>
        intro hk x h
        rw [pls_succ] at h
        rcases List.mem_append.1 h with h | h
        · exact ih (by omega) x h
        · rcases List.mem_append.1 h with h | h
          · unfold labL at h
            cases hT : isT l (k : Int) with
            | false => rw [hT] at h; simp at h
            | true =>
              rw [hT] at h
              have : x = lname k ++ [58] := by simpa using h
              rw [this]
              intro hm
              rcases List.mem_append.1 hm with hm | hm
              · exact wch_no (lname_wch k) (by decide) hm
              · exact absurd hm (by decide)
          · rw [List.mem_singleton.1 h]
            exact prL_no (op_lt hr (by omega)).1 (by decide) (by decide)
    unfold plines at hx
    rcases List.mem_append.1 hx with h | h
    · exact key _ (Nat.le_refl _) x h
    · unfold labL at h
      cases hT : isT l (l.length : Int) with
      | false => rw [hT] at h; simp at h
      | true =>
        rw [hT] at h
        have : x = lname l.length ++ [58] := by simpa using h
        rw [this]
        intro hm
        rcases List.mem_append.1 hm with hm | hm
        · exact wch_no (lname_wch _) (by decide) hm
        · exact absurd hm (by decide)
  have hsp : rsplit 10 (rprint l) = plines l ++ [[]] := by
    rw [rsplit_eq]
    exact cuts_lines 10 _ hno
  have hrl : rlines (rprint l) = plines l := by
    unfold rlines
    rw [hsp, List.dropLast_concat]
  have h4 : (rprint l).length ≤ 40000 := by
    have h1 := pls_chars hl' hr l.length (Nat.le_refl _)
    have h2 := labL_chars l l.length (by omega)
    unfold rprint plines
    rw [List.flatMap_append, List.length_append]
    omega
  have hfin : rpSt (plines l) (plines l).length = l ∧ ∀ q, q < (plines l).length → rpE (plines l) q = 0 := by
    have hp : plines l = pls l l.length ++ labL l l.length := rfl
    have hLcase : (labL l l.length = [] ∨ labL l l.length = [lname l.length ++ [58]]) := by
      unfold labL
      cases isT l (l.length : Int)
      · exact .inl rfl
      · exact .inr rfl
    rcases hLcase with hL | hL
    · have hq : (plines l).length = (pls l l.length).length := by rw [hp, hL]; simp
      rw [hq]
      exact ⟨i1, i2⟩
    · obtain ⟨t1, t2⟩ := step_lab (ls := plines l) (A := pls l l.length) (B := []) (n := l.length) (by rw [hp, hL]) (by omega) (pls_nolab hr (Nat.le_refl _))
      have hq : (plines l).length = (pls l l.length).length + 1 := by rw [hp, hL]; simp
      rw [hq]
      refine ⟨t1.trans i1, fun q hq => ?_⟩
      by_cases e : q = (pls l l.length).length
      · rw [e]; exact t2
      · exact i2 q (by omega)
  unfold rparse
  rw [decide_eq_false (by omega), hrl, hsp, bad1_none hfin.2]
  simp only [cond_false]
  rw [hfin.1]
  simp
end Go.AL
