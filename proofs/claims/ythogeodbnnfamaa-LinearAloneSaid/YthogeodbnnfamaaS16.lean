/-
  The law AtomicAccepts by contracts. No conditions.
-/
import Derived.Test.YthogeodbnnfamaaS15
set_option linter.unusedVariables false
set_option linter.unusedSimpArgs false
set_option maxRecDepth 100000
namespace Go.AL
open Go Go.Proofs
attribute [local irreducible] J inB right may

theorem sameR_comm (r s : Reply) : sameR r s = sameR s r := by simp [sameR, eq_comm]
theorem acc_eq {m : List Pair} {c : Call} (r : Reply) (hr : right m = true) (hc : may c = true) : accA m c r = ((raccA m c r).1, (raccA m c r).2, 0) := by
  have hs := (right_sorted hr).1
  have hn : (needsS m c = true) ↔ (c.kind = 1 ∨ c.kind = 7 ∨ (c.kind = 2 ∧ (valR m c.key).2 = false) ∨ (c.kind = 3 ∧ (valR m c.key).2 = true ∧ (valR m c.key).1 = c.old)) := by
    rw [val_eq hs]
    unfold needsS
    cases hb : has m c.key <;> simp <;> grind
  have h14 : sameR r ⟨14, 0⟩ = true ↔ r.why = 14 ∧ r.value = 0 := by simp [sameR]
  unfold accA raccA
  rw [hr, hc, do_eq hr hc, sameR_comm]
  simp only [Bool.and_self, if_true, Bool.and_eq_true, hn, h14]
  grind

theorem accept_len {m : List Pair} (hr : right m = true) (c : Call) (r : Reply) : (raccA m c r).1.length ≤ 1000000 := by
  have h1 := right_len hr
  have h2 := right_len (rdo_right hr c)
  unfold raccA
  repeat' split
  all_goals (dsimp only [List.length_nil]; omega)
theorem runS_right : ∀ (l : List Call) {m : List Pair}, right m = true → l.all may = true → right (runS m l).1 = true
  | [], m, h, _ => h
  | c :: l, m, h, ha => by
    simp only [List.all_cons, Bool.and_eq_true] at ha
    exact runS_right l (do_right h ha.1) ha.2
theorem runS_len : ∀ (l : List Call) (m : List Pair), (runS m l).2.length = l.length
  | [], m => rfl
  | c :: l, m => by simp [runS, runS_len l]

theorem acceptsA_ok (M : List Pair) (c : Call) (r : Reply) (L : List Call) (hM : M.length ≤ 9223372036854775807) (hL : L.length ≤ 9223372036854775807) :
    ACalls Try.prog 6 [.sl (M.map encP), encC c, encR r, .sl (L.map encC)] [] (one (.v (.bool true)) []) := by
  have hfew := few_ok M hM
  have hm : (M.take 14).length ≤ 14 := by rw [List.length_take]; omega
  have hl : (L.take 30).length ≤ 30 := by rw [List.length_take]; omega
  generalize M.take 14 = m at hfew hm
  have hcut := min_if encC L 30
  have hacc := accept_ok m c r (by omega)
  have hrun := run_ok m (L.take 30) (by omega) (by omega)
  have hright := rright_ok m (by omega)
  have hmay := rmay_ok c
  have hcalls := calls_ok (L.take 30) (by omega)
  have hrrun := fun h1 h2 => rrun_ok m (L.take 30) h1 (by omega) h2
  have hracc := racc_ok m c r (by omega)
  cases h1 : right m
  · have e1 : accA m c r = ([], false, 1) := by simp [accA, h1]
    have e2 : runA m (L.take 30) = ([], [], 1) := by simp [runA, h1]
    rw [e1] at hacc
    rw [e2] at hrun
    rw [h1] at hright
    refine jcalls Try.func6 rfl (by kernel_rfl) Try.ntmps6 rfl rfl (fun w0 β0 ext hβ => ?_)
    repeat (first | refine js rfl ?_ | (refine jdraw ?_ ?_; · kernel_rfl) | refine jbu rfl rfl rfl rfl ?_ | refine jv hfew rfl rfl rfl rfl rfl ?_)
    refine jo rfl rfl (cut_take 30 rfl rfl rfl hcut rfl rfl rfl (fun _ => ⟨rfl, rfl⟩)) rfl rfl ?_
    repeat (first | refine js rfl ?_ | (refine jdraw ?_ ?_; · kernel_rfl) | refine jbu rfl rfl rfl rfl ?_ | refine jv hfew rfl rfl rfl rfl rfl ?_ | refine jv hacc rfl rfl rfl rfl rfl ?_ | refine jv hrun rfl rfl rfl rfl rfl ?_ | refine jv alive_ok rfl rfl rfl rfl rfl ?_ | refine jv hright rfl rfl rfl rfl rfl ?_)
    exact jr rfl rfl rfl rfl
  · rw [h1] at hright
    have hrrun := hrrun h1
    cases h2 : (L.take 30).all may
    · have e2 : runA m (L.take 30) = ([], [], 1) := by simp [runA, h2]
      rw [e2] at hrun
      rw [h2] at hcalls
      cases h3 : may c
      · have e1 : accA m c r = ([], false, 1) := by simp [accA, h3]
        rw [e1] at hacc
        rw [h3] at hmay
        refine jcalls Try.func6 rfl (by kernel_rfl) Try.ntmps6 rfl rfl (fun w0 β0 ext hβ => ?_)
        repeat (first | refine js rfl ?_ | (refine jdraw ?_ ?_; · kernel_rfl) | refine jbu rfl rfl rfl rfl ?_ | refine jv hfew rfl rfl rfl rfl rfl ?_)
        refine jo rfl rfl (cut_take 30 rfl rfl rfl hcut rfl rfl rfl (fun _ => ⟨rfl, rfl⟩)) rfl rfl ?_
        repeat (first | refine js rfl ?_ | (refine jdraw ?_ ?_; · kernel_rfl) | refine jbu rfl rfl rfl rfl ?_ | refine jv hfew rfl rfl rfl rfl rfl ?_ | refine jv hacc rfl rfl rfl rfl rfl ?_ | refine jv hrun rfl rfl rfl rfl rfl ?_ | refine jv alive_ok rfl rfl rfl rfl rfl ?_ | refine jv hright rfl rfl rfl rfl rfl ?_ | refine jv hcalls rfl rfl rfl rfl rfl ?_ | refine jv hmay rfl rfl rfl rfl rfl ?_)
        exact jr rfl rfl rfl rfl
      · have e1 := acc_eq r h1 h3
        have hsame := same_ok (raccA m c r).1 (accept_len h1 c r)
        rw [e1] at hacc
        rw [h3] at hmay
        generalize raccA m c r = q at hacc hsame hracc
        obtain ⟨n, b⟩ := q
        cases b <;> dsimp only at hacc hsame hracc
        · refine jcalls Try.func6 rfl (by kernel_rfl) Try.ntmps6 rfl rfl (fun w0 β0 ext hβ => ?_)
          repeat (first | refine js rfl ?_ | (refine jdraw ?_ ?_; · kernel_rfl) | refine jbu rfl rfl rfl rfl ?_ | refine jv hfew rfl rfl rfl rfl rfl ?_)
          refine jo rfl rfl (cut_take 30 rfl rfl rfl hcut rfl rfl rfl (fun _ => ⟨rfl, rfl⟩)) rfl rfl ?_
          repeat (first | refine js rfl ?_ | (refine jdraw ?_ ?_; · kernel_rfl) | refine jbu rfl rfl rfl rfl ?_ | refine jv hfew rfl rfl rfl rfl rfl ?_ | refine jv hacc rfl rfl rfl rfl rfl ?_ | refine jv hrun rfl rfl rfl rfl rfl ?_ | refine jv alive_ok rfl rfl rfl rfl rfl ?_ | refine jv hright rfl rfl rfl rfl rfl ?_ | refine jv hcalls rfl rfl rfl rfl rfl ?_ | refine jv hmay rfl rfl rfl rfl rfl ?_ | refine jv hracc rfl rfl rfl rfl rfl ?_ | refine jv hsame rfl rfl rfl rfl rfl ?_)
          exact jr rfl rfl rfl rfl
        · refine jcalls Try.func6 rfl (by kernel_rfl) Try.ntmps6 rfl rfl (fun w0 β0 ext hβ => ?_)
          repeat (first | refine js rfl ?_ | (refine jdraw ?_ ?_; · kernel_rfl) | refine jbu rfl rfl rfl rfl ?_ | refine jv hfew rfl rfl rfl rfl rfl ?_)
          refine jo rfl rfl (cut_take 30 rfl rfl rfl hcut rfl rfl rfl (fun _ => ⟨rfl, rfl⟩)) rfl rfl ?_
          repeat (first | refine js rfl ?_ | (refine jdraw ?_ ?_; · kernel_rfl) | refine jbu rfl rfl rfl rfl ?_ | refine jv hfew rfl rfl rfl rfl rfl ?_ | refine jv hacc rfl rfl rfl rfl rfl ?_ | refine jv hrun rfl rfl rfl rfl rfl ?_ | refine jv alive_ok rfl rfl rfl rfl rfl ?_ | refine jv hright rfl rfl rfl rfl rfl ?_ | refine jv hcalls rfl rfl rfl rfl rfl ?_ | refine jv hmay rfl rfl rfl rfl rfl ?_ | refine jv hracc rfl rfl rfl rfl rfl ?_ | refine jv hsame rfl rfl rfl rfl rfl ?_)
          exact jr rfl rfl rfl rfl
    · have e2 : runA m (L.take 30) = ((runS m (L.take 30)).1, (runS m (L.take 30)).2, 0) := by simp [runA, h1, h2]
      have hrrun := hrrun h2
      have hsm := same_ok (runS m (L.take 30)).1 (by have := right_len (runS_right (L.take 30) h1 h2); omega)
      have hrep := replies_ok (runS m (L.take 30)).2 (by rw [runS_len]; omega)
      rw [e2] at hrun
      rw [h2] at hcalls
      generalize runS m (L.take 30) = q at hrun hrrun hsm hrep
      obtain ⟨x, y⟩ := q
      dsimp only at hrun hrrun hsm hrep
      cases h3 : may c
      · have e1 : accA m c r = ([], false, 1) := by simp [accA, h3]
        rw [e1] at hacc
        rw [h3] at hmay
        refine jcalls Try.func6 rfl (by kernel_rfl) Try.ntmps6 rfl rfl (fun w0 β0 ext hβ => ?_)
        repeat (first | refine js rfl ?_ | (refine jdraw ?_ ?_; · kernel_rfl) | refine jbu rfl rfl rfl rfl ?_ | refine jv hfew rfl rfl rfl rfl rfl ?_)
        refine jo rfl rfl (cut_take 30 rfl rfl rfl hcut rfl rfl rfl (fun _ => ⟨rfl, rfl⟩)) rfl rfl ?_
        repeat (first | refine js rfl ?_ | (refine jdraw ?_ ?_; · kernel_rfl) | refine jbu rfl rfl rfl rfl ?_ | refine jv hfew rfl rfl rfl rfl rfl ?_ | refine jv hacc rfl rfl rfl rfl rfl ?_ | refine jv hrun rfl rfl rfl rfl rfl ?_ | refine jv alive_ok rfl rfl rfl rfl rfl ?_ | refine jv hright rfl rfl rfl rfl rfl ?_ | refine jv hcalls rfl rfl rfl rfl rfl ?_ | refine jv hrrun rfl rfl rfl rfl rfl ?_ | refine jv hsm rfl rfl rfl rfl rfl ?_ | refine jv hrep rfl rfl rfl rfl rfl ?_ | refine jv hmay rfl rfl rfl rfl rfl ?_)
        exact jr rfl rfl rfl rfl
      · have e1 := acc_eq r h1 h3
        have hsame := same_ok (raccA m c r).1 (accept_len h1 c r)
        rw [e1] at hacc
        rw [h3] at hmay
        generalize raccA m c r = q at hacc hsame hracc
        obtain ⟨n, b⟩ := q
        cases b <;> dsimp only at hacc hsame hracc
        · refine jcalls Try.func6 rfl (by kernel_rfl) Try.ntmps6 rfl rfl (fun w0 β0 ext hβ => ?_)
          repeat (first | refine js rfl ?_ | (refine jdraw ?_ ?_; · kernel_rfl) | refine jbu rfl rfl rfl rfl ?_ | refine jv hfew rfl rfl rfl rfl rfl ?_)
          refine jo rfl rfl (cut_take 30 rfl rfl rfl hcut rfl rfl rfl (fun _ => ⟨rfl, rfl⟩)) rfl rfl ?_
          repeat (first | refine js rfl ?_ | (refine jdraw ?_ ?_; · kernel_rfl) | refine jbu rfl rfl rfl rfl ?_ | refine jv hfew rfl rfl rfl rfl rfl ?_ | refine jv hacc rfl rfl rfl rfl rfl ?_ | refine jv hrun rfl rfl rfl rfl rfl ?_ | refine jv alive_ok rfl rfl rfl rfl rfl ?_ | refine jv hright rfl rfl rfl rfl rfl ?_ | refine jv hcalls rfl rfl rfl rfl rfl ?_ | refine jv hrrun rfl rfl rfl rfl rfl ?_ | refine jv hsm rfl rfl rfl rfl rfl ?_ | refine jv hrep rfl rfl rfl rfl rfl ?_ | refine jv hmay rfl rfl rfl rfl rfl ?_ | refine jv hracc rfl rfl rfl rfl rfl ?_ | refine jv hsame rfl rfl rfl rfl rfl ?_)
          exact jr rfl rfl rfl rfl
        · refine jcalls Try.func6 rfl (by kernel_rfl) Try.ntmps6 rfl rfl (fun w0 β0 ext hβ => ?_)
          repeat (first | refine js rfl ?_ | (refine jdraw ?_ ?_; · kernel_rfl) | refine jbu rfl rfl rfl rfl ?_ | refine jv hfew rfl rfl rfl rfl rfl ?_)
          refine jo rfl rfl (cut_take 30 rfl rfl rfl hcut rfl rfl rfl (fun _ => ⟨rfl, rfl⟩)) rfl rfl ?_
          repeat (first | refine js rfl ?_ | (refine jdraw ?_ ?_; · kernel_rfl) | refine jbu rfl rfl rfl rfl ?_ | refine jv hfew rfl rfl rfl rfl rfl ?_ | refine jv hacc rfl rfl rfl rfl rfl ?_ | refine jv hrun rfl rfl rfl rfl rfl ?_ | refine jv alive_ok rfl rfl rfl rfl rfl ?_ | refine jv hright rfl rfl rfl rfl rfl ?_ | refine jv hcalls rfl rfl rfl rfl rfl ?_ | refine jv hrrun rfl rfl rfl rfl rfl ?_ | refine jv hsm rfl rfl rfl rfl rfl ?_ | refine jv hrep rfl rfl rfl rfl rfl ?_ | refine jv hmay rfl rfl rfl rfl rfl ?_ | refine jv hracc rfl rfl rfl rfl rfl ?_ | refine jv hsame rfl rfl rfl rfl rfl ?_)
          exact jr rfl rfl rfl rfl
end Go.AL
