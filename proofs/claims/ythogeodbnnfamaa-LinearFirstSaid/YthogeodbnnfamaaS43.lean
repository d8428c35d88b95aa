/-
  The law LinearFirst by contracts. No conditions.
-/
import Derived.Test.YthogeodbnnfamaaS42
import Derived.Test.YthogeodbnnfamaaL6
set_option linter.unusedVariables false
set_option linter.unusedSimpArgs false
set_option maxRecDepth 100000
namespace Go.AL
open Go Go.Proofs
attribute [local irreducible] J inB right may

theorem err_zero {m : List Pair} {l : List Span} (h8 : l.length ≤ 8) (hr : right m = true) (hb : l.any badSp = false) : errL m l = 0 := by unfold errL; rw [if_neg (by omega), hr, hb]; rfl
theorem orderA_some {m : List Pair} {l : List Span} {r : List Int} (he : errL m l = 0) (h : orderR m l = some r) : orderA m l = (r, 0) := by unfold orderA; rw [if_pos he, h]
theorem orderA_none {m : List Pair} {l : List Span} (he : errL m l = 0) (h : orderR m l = none) : orderA m l = ([], 8) := by unfold orderA; rw [if_pos he, h]
theorem bad_erase {l : List Span} (hb : l.any badSp = false) (i : Nat) : (l.eraseIdx i).any badSp = false := by
  rw [List.any_eq_false] at hb ⊢
  exact fun x hx => hb x (List.mem_of_mem_eraseIdx hx)
theorem take_contains {first : List Int} {k : Nat} (hk : k < first.length) (i : Int) : (first.take (k + 1)).contains i = ((first.take k).contains i || (at' first (k : Int) == i)) := by
  rw [List.take_succ_eq_append_getElem hk, ← at_nat first k hk]
  rw [Bool.eq_iff_iff]
  simp only [List.contains_eq_mem, List.mem_append, List.mem_singleton, decide_eq_true_eq, Bool.or_eq_true, beq_iff_eq]
  constructor
  · rintro (h | h)
    · exact .inl h
    · exact .inr h.symm
  · rintro (h | h)
    · exact .inl h
    · exact .inr h.symm
theorem lexOK_drop {s row : List Int} {i : Nat} (hi : i < s.length) (h : lexOK (s.drop i) (row.drop i) = true) : i < row.length ∧ ¬ at' row (i : Int) < at' s (i : Int) ∧ (¬ at' row (i : Int) > at' s (i : Int) → lexOK (s.drop (i + 1)) (row.drop (i + 1)) = true) := by
  rw [List.drop_eq_getElem_cons hi] at h
  rcases Nat.lt_or_ge i row.length with hr | hr
  · rw [List.drop_eq_getElem_cons hr] at h
    rw [at_nat s i hi, at_nat row i hr]
    simp only [lexOK] at h
    refine ⟨hr, ?_, ?_⟩
    · intro hlt; rw [if_pos hlt] at h; cases h
    · intro hgt
      split at h
      · cases h
      · first | exact h | (rw [if_neg hgt] at h; exact h)
  · rw [List.drop_of_length_le hr] at h
    cases h

set_option maxHeartbeats 1000000 in
theorem first_ok (M : List Pair) (L : List Span) (R : List Int) (hM : M.length ≤ 9223372036854775807) (hL : L.length ≤ 9223372036854775807) (hR : R.length ≤ 9223372036854775807) :
    ACalls Try.prog 8 [.sl (M.map encP), .sl (L.map encSp), .sl (R.map encI)] [] (one (.v (.bool true)) []) := by
  have hfew := lfew_ok M hM
  have hm : (M.take 14).length ≤ 14 := by rw [List.length_take]; omega
  generalize M.take 14 = m at hfew hm
  have hcut := min_if encSp L 10
  have hl : (L.take 10).length ≤ 10 := by rw [List.length_take]; omega
  generalize hg : L.take 10 = l at hl
  have hcut2 := min_if encI R 12
  have hrow : (R.take 12).length ≤ 12 := by rw [List.length_take]; omega
  generalize hg2 : R.take 12 = row at hrow
  have hck := check_ok m l row (by omega) (by omega) (by omega)
  have hord := order_ok m l (by omega) (by omega)
  by_cases h8 : l.length > 8
  · have e : errL m l = 2 := by unfold errL; rw [if_pos h8]
    have e2 : orderA m l = ([], 2) := by unfold orderA; rw [e]; rfl
    rw [e] at hck
    rw [e2] at hord
    refine jcalls Try.func8 rfl (by kernel_rfl) Try.ntmps8 rfl rfl (fun w0 β0 ext hβ => ?_)
    repeat (first | refine js rfl ?_ | (refine jdraw ?_ ?_; · kernel_rfl) | refine jbu rfl rfl rfl rfl ?_ | refine jv hfew rfl rfl rfl rfl rfl ?_)
    refine jo rfl rfl (cut_take 10 rfl rfl rfl hcut rfl rfl rfl (fun _ => ⟨rfl, rfl⟩)) rfl rfl ?_
    rw [hg]
    repeat (first | refine js rfl ?_ | (refine jdraw ?_ ?_; · kernel_rfl) | refine jbu rfl rfl rfl rfl ?_)
    refine jo rfl rfl (cut_take 12 rfl rfl rfl hcut2 rfl rfl rfl (fun _ => ⟨rfl, rfl⟩)) rfl rfl ?_
    rw [hg2]
    repeat (first | refine js rfl ?_ | (refine jdraw ?_ ?_; · kernel_rfl) | refine jbu rfl rfl rfl rfl ?_ | refine jv hck rfl rfl rfl rfl rfl ?_ | refine jv hord rfl rfl rfl rfl rfl ?_ | refine jv lalive_ok rfl rfl rfl rfl rfl ?_)
    exact jr rfl rfl rfl rfl
  by_cases hx : right m = true ∧ l.any badSp = false
  case neg =>
    have e : errL m l = 1 := by unfold errL; rw [if_neg h8, if_neg hx]
    have e2 : orderA m l = ([], 1) := by unfold orderA; rw [e]; rfl
    rw [e] at hck
    rw [e2] at hord
    refine jcalls Try.func8 rfl (by kernel_rfl) Try.ntmps8 rfl rfl (fun w0 β0 ext hβ => ?_)
    repeat (first | refine js rfl ?_ | (refine jdraw ?_ ?_; · kernel_rfl) | refine jbu rfl rfl rfl rfl ?_ | refine jv hfew rfl rfl rfl rfl rfl ?_)
    refine jo rfl rfl (cut_take 10 rfl rfl rfl hcut rfl rfl rfl (fun _ => ⟨rfl, rfl⟩)) rfl rfl ?_
    rw [hg]
    repeat (first | refine js rfl ?_ | (refine jdraw ?_ ?_; · kernel_rfl) | refine jbu rfl rfl rfl rfl ?_)
    refine jo rfl rfl (cut_take 12 rfl rfl rfl hcut2 rfl rfl rfl (fun _ => ⟨rfl, rfl⟩)) rfl rfl ?_
    rw [hg2]
    repeat (first | refine js rfl ?_ | (refine jdraw ?_ ?_; · kernel_rfl) | refine jbu rfl rfl rfl rfl ?_ | refine jv hck rfl rfl rfl rfl rfl ?_ | refine jv hord rfl rfl rfl rfl rfl ?_ | refine jv lalive_ok rfl rfl rfl rfl rfl ?_)
    exact jr rfl rfl rfl rfl
  obtain ⟨hr, hb⟩ := hx
  have e := err_zero (by omega) hr hb
  rw [e] at hck
  cases ho : orderR m l with
  | none =>
    have hno : (mapS l m [] row).2 = false := by
      cases hc : (mapS l m [] row).2
      · rfl
      · obtain ⟨r, h1, _⟩ := first_min hc
        rw [ho] at h1; cases h1
    rw [hno] at hck
    rw [orderA_none e ho] at hord
    refine jcalls Try.func8 rfl (by kernel_rfl) Try.ntmps8 rfl rfl (fun w0 β0 ext hβ => ?_)
    repeat (first | refine js rfl ?_ | (refine jdraw ?_ ?_; · kernel_rfl) | refine jbu rfl rfl rfl rfl ?_ | refine jv hfew rfl rfl rfl rfl rfl ?_)
    refine jo rfl rfl (cut_take 10 rfl rfl rfl hcut rfl rfl rfl (fun _ => ⟨rfl, rfl⟩)) rfl rfl ?_
    rw [hg]
    repeat (first | refine js rfl ?_ | (refine jdraw ?_ ?_; · kernel_rfl) | refine jbu rfl rfl rfl rfl ?_)
    refine jo rfl rfl (cut_take 12 rfl rfl rfl hcut2 rfl rfl rfl (fun _ => ⟨rfl, rfl⟩)) rfl rfl ?_
    rw [hg2]
    repeat (first | refine js rfl ?_ | (refine jdraw ?_ ?_; · kernel_rfl) | refine jbu rfl rfl rfl rfl ?_ | refine jv hck rfl rfl rfl rfl rfl ?_ | refine jv hord rfl rfl rfl rfl rfl ?_ | refine jv lalive_ok rfl rfl rfl rfl rfl ?_)
    exact jr rfl rfl rfl rfl
  | some first =>
    obtain ⟨hs1, hs2, hs3⟩ := first_sound ho
    have hck2 := check_ok m l first (by omega) (by omega) (by omega)
    rw [e, hs1] at hck2
    rw [orderA_some e ho] at hord
    have hlex : (mapS l m [] row).2 = true → lexOK first row = true := fun hc => by
      obtain ⟨r, h1, h2⟩ := first_min hc
      rw [ho] at h1; injection h1 with h1; subst h1; exact h2
    have hera := fun (i : Nat) (hi : i < l.length) => first_erase (i := i) hi ho
    generalize (mapS l m [] row).2 = is at hck hlex
    refine jcalls Try.func8 rfl (by kernel_rfl) Try.ntmps8 rfl rfl (fun w0 β0 ext hβ => ?_)
    repeat (first | refine js rfl ?_ | (refine jdraw ?_ ?_; · kernel_rfl) | refine jbu rfl rfl rfl rfl ?_ | refine jv hfew rfl rfl rfl rfl rfl ?_)
    refine jo rfl rfl (cut_take 10 rfl rfl rfl hcut rfl rfl rfl (fun _ => ⟨rfl, rfl⟩)) rfl rfl ?_
    rw [hg]
    repeat (first | refine js rfl ?_ | (refine jdraw ?_ ?_; · kernel_rfl) | refine jbu rfl rfl rfl rfl ?_)
    refine jo rfl rfl (cut_take 12 rfl rfl rfl hcut2 rfl rfl rfl (fun _ => ⟨rfl, rfl⟩)) rfl rfl ?_
    rw [hg2]
    repeat (first | refine js rfl ?_ | (refine jdraw ?_ ?_; · kernel_rfl) | refine jbu rfl rfl rfl rfl ?_ | refine jv hck rfl rfl rfl rfl rfl ?_ | refine jv hord rfl rfl rfl rfl rfl ?_ | refine jv lalive_ok rfl rfl rfl rfl rfl ?_ | refine jv hck2 rfl rfl rfl rfl rfl ?_)
    refine jmid [0, 1, 7] [.sl (m.map encP), .sl (l.map encSp), .sl (first.map encI)] [] ?_ ?_
    · cases is
      · repeat (first | refine js rfl ?_ | (refine jdraw ?_ ?_; · kernel_rfl) | refine jbu rfl rfl rfl rfl ?_)
        exact jmeet rfl rfl
      · have hlex := hlex rfl
        repeat (first | refine js rfl ?_ | (refine jdraw ?_ ?_; · kernel_rfl) | refine jbu rfl rfl rfl rfl ?_)
        refine jloop (ι := Nat) 0 (fun i => i ≤ first.length ∧ lexOK (first.drop i) (row.drop i) = true) [0, 1, 2, 7, 98, 99, 100] (fun i => [.sl (m.map encP), .sl (l.map encSp), .sl (row.map encI), .sl (first.map encI), .sl (first.map encI), .v (.int .i64 first.length), .v (.int .i64 i)]) (fun _ => []) (fun i => first.length - i) 0 (Nat.le_of_eq hβ) ⟨by omega, hlex⟩ (by simp only [List.length_map]; rfl) rfl ?_
        rintro i ⟨hi, hv⟩
        repeat (first | refine js rfl ?_ | (refine jdraw ?_ ?_; · kernel_rfl) | refine jbu rfl rfl rfl rfl ?_)
        refine jc rfl rfl rfl (fun h => ?_) (fun h => ?_)
        · have h := of_decide_eq_true h
          have hi1 : i < first.length := by omega
          have w1 := idx_next hi1 (by omega)
          obtain ⟨g1, g2, g3⟩ := lexOK_drop hi1 hv
          repeat (first | refine js rfl ?_ | (refine jdraw ?_ ?_; · kernel_rfl) | refine jbu rfl rfl rfl rfl ?_)
          refine jo rfl rfl (index_at rfl rfl rfl rfl rfl rfl rfl rfl (by omega) (by omega)) rfl rfl ?_
          repeat (first | refine js rfl ?_ | (refine jdraw ?_ ?_; · kernel_rfl) | refine jbu rfl rfl rfl rfl ?_)
          refine jg rfl rfl rfl rfl (fun h2 => absurd h2 (by simp; omega)) (fun h2 => ?_)
          repeat (first | refine js rfl ?_ | (refine jdraw ?_ ?_; · kernel_rfl) | refine jbu rfl rfl rfl rfl ?_)
          refine jo rfl rfl (index_at rfl rfl rfl rfl rfl rfl rfl rfl (by omega) (by omega)) rfl rfl ?_
          repeat (first | refine js rfl ?_ | (refine jdraw ?_ ?_; · kernel_rfl) | refine jbu rfl rfl rfl rfl ?_)
          refine jc rfl rfl rfl (fun h3 => absurd (of_decide_eq_true h3) g2) (fun h3 => ?_)
          repeat (first | refine js rfl ?_ | (refine jdraw ?_ ?_; · kernel_rfl) | refine jbu rfl rfl rfl rfl ?_)
          refine jo rfl rfl (index_at rfl rfl rfl rfl rfl rfl rfl rfl (by omega) (by omega)) rfl rfl ?_
          repeat (first | refine js rfl ?_ | (refine jdraw ?_ ?_; · kernel_rfl) | refine jbu rfl rfl rfl rfl ?_)
          refine jc rfl rfl rfl (fun h4 => ?_) (fun h4 => ?_)
          · repeat (first | refine js rfl ?_ | (refine jdraw ?_ ?_; · kernel_rfl) | refine jbu rfl rfl rfl rfl ?_)
            exact jmeet rfl rfl
          · have h4 := of_decide_eq_false h4
            repeat (first | refine js rfl ?_ | (refine jdraw ?_ ?_; · kernel_rfl) | refine jbu rfl rfl rfl rfl ?_)
            exact jnext (i + 1) ⟨hi1, g3 h4⟩ (by omega) rfl rfl rfl (by rw [w1]) rfl
        · repeat (first | refine js rfl ?_ | (refine jdraw ?_ ?_; · kernel_rfl) | refine jbu rfl rfl rfl rfl ?_)
          exact jmeet rfl rfl
    repeat (first | refine js rfl ?_ | (refine jdraw ?_ ?_; · kernel_rfl) | refine jbu rfl rfl rfl rfl ?_)
    refine jloop (ι := Nat) 0 (fun i => i ≤ l.length) [0, 1, 7, 124, 125, 126] (fun i => [.sl (m.map encP), .sl (l.map encSp), .sl (first.map encI), .sl (l.map encSp), .v (.int .i64 l.length), .v (.int .i64 i)]) (fun _ => []) (fun i => l.length - i) 0 (Nat.le_of_eq hβ) (by omega) (by simp only [List.length_map]; rfl) rfl ?_
    intro i hi
    repeat (first | refine js rfl ?_ | (refine jdraw ?_ ?_; · kernel_rfl) | refine jbu rfl rfl rfl rfl ?_)
    refine jc rfl rfl rfl (fun h => ?_) (fun h => ?_)
    · have h := of_decide_eq_true h
      have hi1 : i < l.length := by omega
      have w1 := idx_next hi1 (by omega)
      repeat (first | refine js rfl ?_ | (refine jdraw ?_ ?_; · kernel_rfl) | refine jbu rfl rfl rfl rfl ?_)
      refine jo rfl rfl (index_at rfl rfl rfl rfl rfl rfl rfl rfl (by omega) (by omega)) rfl rfl ?_
      repeat (first | refine js rfl ?_ | (refine jdraw ?_ ?_; · kernel_rfl) | refine jbu rfl rfl rfl rfl ?_)
      refine jc rfl rfl rfl (fun h2 => ?_) (fun h2 => ?_)
      · repeat (first | refine js rfl ?_ | (refine jdraw ?_ ?_; · kernel_rfl) | refine jbu rfl rfl rfl rfl ?_)
        exact jnext (i + 1) hi1 (by omega) rfl rfl rfl (by rw [w1]) rfl
      repeat (first | refine js rfl ?_ | refine jbu rfl rfl rfl rfl ?_)
      refine jdrawPT [(0, .x), (1, .p), (2, .p), (3, .p), (4, .x), (5, .p), (6, .p), (7, .p), (8, .p), (9, .x), (10, .p)] rfl (by kernel_rfl) ?_
      refine jbo rfl rfl rfl rfl rfl rfl rfl rfl ?_
      repeat (first | refine js rfl ?_ | (refine jdraw ?_ ?_; · kernel_rfl) | refine jbu rfl rfl rfl rfl ?_)
      refine jo rfl rfl (cut_enc 0 i rfl rfl rfl ⟨.i64, rfl⟩ rfl rfl rfl (fun _ => ⟨rfl, rfl⟩) (by omega) (by omega)) rfl rfl ?_
      refine jo rfl rfl (append_encs (enc := encSp) (l := []) (l2 := (l.drop 0).take (i - 0)) rfl rfl rfl rfl rfl rfl rfl rfl rfl (fun _ => ⟨rfl, rfl⟩) rfl (by simp; omega) rfl rfl) rfl rfl ?_
      repeat (first | refine js rfl ?_ | (refine jdraw ?_ ?_; · kernel_rfl) | refine jbu rfl rfl rfl rfl ?_)
      refine jre 141 (.v (.int .i64 (i + 1 : Nat))) rfl rfl (by rw [w1]) ?_
      refine jo rfl rfl (cut_enc (i + 1) l.length rfl rfl ⟨.i64, rfl⟩ (by simp) rfl rfl rfl (fun _ => ⟨rfl, rfl⟩) (by omega) (by omega)) rfl rfl ?_
      refine jo rfl rfl (append_encs (enc := encSp) (l := [] ++ (l.drop 0).take (i - 0)) (l2 := (l.drop (i + 1)).take (l.length - (i + 1))) rfl rfl rfl rfl rfl rfl rfl rfl rfl (fun _ => ⟨rfl, rfl⟩) rfl (by simp; omega) rfl rfl) rfl rfl ?_
      have hrest : [] ++ (l.drop 0).take (i - 0) ++ (l.drop (i + 1)).take (l.length - (i + 1)) = l.eraseIdx i := by
        rw [List.eraseIdx_eq_take_drop_succ, List.nil_append, List.drop_zero, Nat.sub_zero, List.take_of_length_le (l := l.drop (i + 1)) (by simp)]
      rw [hrest]
      have hel : (l.eraseIdx i).length = l.length - 1 := by rw [List.length_eraseIdx, if_pos hi1]
      have hord2 := order_ok m (l.eraseIdx i) (by omega) (by omega)
      have hA : (i : Int) ∉ first → (orderA m (l.eraseIdx i)).2 = 0 := fun hni => by
        obtain ⟨r', hr'⟩ := hera i hi1 hni
        rw [orderA_some (err_zero (by omega) hr (bad_erase hb i)) hr']
      generalize orderA m (l.eraseIdx i) = q at hord2 hA
      obtain ⟨x, g⟩ := q
      repeat (first | refine jpub 17 rfl rfl rfl rfl ?_ | refine js rfl ?_ | (refine jdraw ?_ ?_; · kernel_rfl) | refine jbu rfl rfl rfl rfl ?_)
      refine jloop (ι := Nat) 2 (fun k => k ≤ first.length) [0, 1, 7, 124, 125, 126, 15, 17, 18, 144, 145, 146] (fun k => [.sl (m.map encP), .sl (l.map encSp), .sl (first.map encI), .sl (l.map encSp), .v (.int .i64 l.length), .v (.int .i64 i), .v (.int .i64 i), .sl ((l.eraseIdx i).map encSp), .v (.bool ((first.take k).contains (i : Int))), .sl (first.map encI), .v (.int .i64 first.length), .v (.int .i64 k)])
        (fun _ => [.box 65 (spCells (at' l (i : Int))), .dead 4]) (fun k => first.length - k) 0 (by rw [hβ]; decide) (by omega) (by simp only [List.length_map]; rfl) rfl ?_
      intro k hk
      repeat (first | refine js rfl ?_ | (refine jdraw ?_ ?_; · kernel_rfl) | refine jbu rfl rfl rfl rfl ?_)
      refine jc rfl rfl rfl (fun h => ?_) (fun h => ?_)
      · have h := of_decide_eq_true h
        have hk1 : k < first.length := by omega
        have w2 := idx_next hk1 (by omega)
        have ht := take_contains hk1 (i : Int)
        repeat (first | refine js rfl ?_ | (refine jdraw ?_ ?_; · kernel_rfl) | refine jbu rfl rfl rfl rfl ?_)
        refine jo rfl rfl (index_at rfl rfl rfl rfl rfl rfl rfl rfl (by omega) (by omega)) rfl rfl ?_
        generalize (first.take k).contains (i : Int) = u at ht
        cases u
        all_goals
          repeat (first | refine js rfl ?_ | (refine jdraw ?_ ?_; · kernel_rfl) | refine jbu rfl rfl rfl rfl ?_)
          refine jnext (k + 1) hk1 (by omega) rfl rfl rfl ?_ rfl
          rw [ht, w2]
          rfl
      · have h := of_decide_eq_false h
        have hk2 : k = first.length := by omega
        subst hk2
        rw [List.take_length]
        cases hu : first.contains (i : Int)
        · have hA : g = 0 := hA (by simpa using hu)
          subst hA
          repeat (first | refine js rfl ?_ | (refine jdraw ?_ ?_; · kernel_rfl) | refine jbu rfl rfl rfl rfl ?_ | refine jv hord2 rfl rfl rfl rfl rfl ?_)
          exact jnext (i + 1) hi1 (by omega) rfl rfl rfl (by rw [w1]) rfl
        · repeat' (first | refine js rfl ?_ | (refine jdraw ?_ ?_; · kernel_rfl) | refine jbu rfl rfl rfl rfl ?_ | refine jv hord2 rfl rfl rfl rfl rfl ?_ | refine jo rfl rfl (index_at rfl rfl rfl rfl rfl rfl rfl rfl (by omega) (by omega)) rfl rfl ?_ | (refine jc rfl rfl rfl (fun h => ?_) (fun h => ?_) <;> (try simp only [decide_eq_true_eq, decide_eq_false_iff_not, beq_iff_eq, beq_eq_false_iff_ne, bne_iff_ne, bne_eq_false_iff_eq, ne_eq] at h) <;> (try (exfalso; omega))) | (refine jg rfl rfl rfl rfl (fun h => ?_) (fun h => ?_) <;> (fail_if_success (exact absurd h (by decide))) <;> (try simp only [decide_eq_true_eq, decide_eq_false_iff_not, beq_iff_eq, beq_eq_false_iff_ne, bne_iff_ne, bne_eq_false_iff_eq, ne_eq] at h) <;> (try (exfalso; omega))))
          all_goals exact jnext (i + 1) hi1 (by omega) rfl rfl rfl (by rw [w1]) rfl
    · repeat (first | refine js rfl ?_ | (refine jdraw ?_ ?_; · kernel_rfl) | refine jbu rfl rfl rfl rfl ?_)
      exact jr rfl rfl rfl rfl
end Go.AL
