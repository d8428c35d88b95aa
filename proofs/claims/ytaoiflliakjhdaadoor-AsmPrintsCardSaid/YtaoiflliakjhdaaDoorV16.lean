/-
  The plain law of AsmReads, eighth part: Parse on both sides. No model.
-/
import Derived.Test.YtaoiflliakjhdaaDoorV15
set_option linter.unusedVariables false
set_option linter.unusedSimpArgs false
namespace Go.AL
open Go Go.Proofs

theorem labels_look (s w : Bs) : (labels s).lookup w = ((rlines s).findIdx? (fun l => decide (l = w ++ [58]))).map (nl (rlines s)) := by
  obtain ⟨x, _, hc, hx⟩ := lines_split s
  have hi := (lab_inv (rlines s) (rlines s).length (Nat.le_refl _)).2 w
  rw [List.take_length] at hi
  rw [← hi]
  unfold labels labSt
  rw [hc, List.take_length]
  have hl : ((rlines s).map (· ++ [10])).take (rlines s).length = (rlines s).map (· ++ [10]) := List.take_of_length_le (by simp)
  rw [hl]
  by_cases h : x = []
  · rw [if_pos h, List.append_nil]
  · rw [if_neg h, List.foldl_append]
    generalize List.foldl stepL ([], 0) ((rlines s).map (· ++ [10])) = st
    show (stepL st x).1.lookup w = _
    unfold stepL
    rw [(no_end hx).1]
    rfl
theorem rdT_eq (s w : Bs) : rdT (labels s) w = ropT (rlines s) w := by
  unfold rdT ropT rtarget
  rw [name_eq, labels_look]
  cases (rlines s).findIdx? (fun l => decide (l = w ++ [58])) <;> rfl
theorem rd_eq (s : Bs) (c : UInt8) (w : Bs) : rd (labels s) c w = rop (rlines s) c w := by
  unfold rd rop
  rw [rdN_eq, rdT_eq]
theorem rdAll_eq (s : Bs) : ∀ (kd : Bs) (ws : List Bs), rdAll (labels s) kd ws = rAll (rlines s) kd ws
  | [], _ => rfl
  | _ :: _, [] => rfl
  | c :: cs, w :: ws => by
    rw [rdAll, rAll, rd_eq, rdAll_eq s cs ws]
theorem words_eq (l : Bs) : words l = rsplit 32 l := by
  unfold words
  rw [split_eq, rsplit_eq]
theorem instr_eq (s l : Bs) (n : Int) : rinstr (rlines s) l n = cond (decide ((instrP (labels s) l).2 = 0)) (cond (decide (n ≥ 1000)) (default, 2) (instrP (labels s) l)) (instrP (labels s) l) := by
  cases hw : rsplit 32 l with
  | nil =>
    have e1 : instrP (labels s) l = (default, 10) := by unfold instrP; rw [words_eq, hw]
    have e2 : rinstr (rlines s) l n = (default, 10) := by unfold rinstr; rw [hw]
    rw [e1, e2]; rfl
  | cons w ws =>
    have e1 : instrP (labels s) l = cond (decide (findOp w < 0)) (default, 10) (instrK (labels s) (findOp w) (at' opsT (findOp w)).2 ws) := by unfold instrP; rw [words_eq, hw]
    have e2 : rinstr (rlines s) l n = cond (decide (findOp w < 0)) (default, 10) (rinstrK (rlines s) (findOp w) (at' opK (findOp w)) ws n) := by unfold rinstr; rw [hw]
    rw [e1, e2]
    rcases findOp_cases w with h | ⟨k, hk, h⟩
    · rw [h]; rfl
    · have h0 : decide ((k : Int) < 0) = false := by simp
      rw [h, h0, opK_at k hk]
      simp only [cond_false]
      unfold rinstrK instrK
      rw [rdAll_eq]
      cases decide (ws.length = (at' opsT (k : Int)).2.length) with
      | false => rfl
      | true =>
        simp only [cond_true]
        by_cases hz : (rAll (rlines s) (at' opsT (k : Int)).2 ws).2 = 0
        · rw [hz]; simp
        · simp [hz]
theorem instr_lt (s l : Bs) (n : Nat) (h : (rinstr (rlines s) l n).2 = 0) : n < 1000 ∧ rinstr (rlines s) l n = instrP (labels s) l := by
  rw [instr_eq] at h ⊢
  by_cases h0 : (instrP (labels s) l).2 = 0
  · rw [decide_eq_true h0] at h ⊢
    simp only [cond_true] at h ⊢
    by_cases hn : (n : Int) ≥ 1000
    · rw [decide_eq_true hn] at h
      simp only [cond_true] at h
      exact absurd h (by decide)
    · rw [decide_eq_false hn]
      exact ⟨by omega, rfl⟩
  · rw [decide_eq_false h0] at h
    exact absurd h h0
theorem bad1_inv {e : Nat → Int} : ∀ {n : Nat}, (bad1 e n = none → ∀ q, q < n → e q = 0) ∧ (∀ k, bad1 e n = some k → k < n ∧ (∀ q, q < k → e q = 0) ∧ e k ≠ 0)
  | 0 => ⟨fun _ q h => absurd h (by omega), fun k h => by cases h⟩
  | n + 1 => by
    obtain ⟨i1, i2⟩ := bad1_inv (e := e) (n := n)
    rw [bad1]
    cases hb : bad1 e n with
    | some k =>
      refine ⟨fun h => (by cases h), fun q h => ?_⟩
      injection h with h
      subst h
      obtain ⟨a, b, c⟩ := i2 _ hb
      exact ⟨by omega, b, c⟩
    | none =>
      have i1 := i1 hb
      by_cases h0 : e n = 0
      · rw [decide_eq_true h0]
        refine ⟨fun _ q hq => ?_, fun k h => (by cases h)⟩
        by_cases e : q = n
        · rw [e]; exact h0
        · exact i1 q (by omega)
      · rw [decide_eq_false h0]
        refine ⟨fun h => (by cases h), fun k h => ?_⟩
        injection h with h
        subst h
        exact ⟨by omega, i1, h0⟩
/-- what holds while no line is at fault -/
def PInv (s : Bs) (k : Nat) : Prop :=
  (pSt (labels s) (chunks s) k).2 = rpSt (rlines s) k ∧ (rpSt (rlines s) k).length ≤ 1000 ∧ (∀ b, 0 ≤ cnt (pSt (labels s) (chunks s) k).1 b) ∧ ∀ b, decide (cnt (pSt (labels s) (chunks s) k).1 b + 1 > 1) = ((rlines s).take k).any fun l => decide (l = b)
theorem chunk_at (s : Bs) {k : Nat} (h : k < (rlines s).length) : ∃ h2 : k < (chunks s).length, (chunks s)[k] = (rlines s)[k] ++ [10] := by
  obtain ⟨x, _, hc, _⟩ := lines_split s
  have h2 : k < (chunks s).length := by rw [hc]; simp; omega
  refine ⟨h2, ?_⟩
  have : (chunks s)[k]? = some ((rlines s)[k] ++ [10]) := by
    rw [hc, List.getElem?_append_left (by simpa using h)]
    simp [h]
  rw [List.getElem?_eq_getElem h2] at this
  injection this
theorem rpE_eq (s : Bs) {k : Nat} (h : k < (rlines s).length) (hi : PInv s k) : pE (labels s) (chunks s) k = rpE (rlines s) k := by
  obtain ⟨h2, hc⟩ := chunk_at s h
  obtain ⟨i1, i2, _, i3⟩ := hi
  unfold pE rpE
  rw [List.getElem?_eq_getElem h2, hc]
  simp only
  have hg : (rlines s).getD k [] = (rlines s)[k] := by simp [List.getD, h]
  rw [hg]
  unfold lineE
  rw [bare_end, ended_end, isLab_eq, i3, i1]
  cases hr : rlab (rlines s)[k] with
  | true =>
    obtain ⟨hd, _⟩ := labName_eq _ hr
    rw [hd, name_eq]
    cases rname (rlines s)[k].dropLast <;> simp
  | false =>
    have e : decide ((rpSt (rlines s) k).length = 1000) = decide (((rpSt (rlines s) k).length : Int) ≥ 1000) := by
      by_cases h3 : (rpSt (rlines s) k).length = 1000
      · rw [decide_eq_true h3, decide_eq_true (by omega)]
      · rw [decide_eq_false h3, decide_eq_false (by omega)]
    rw [instr_eq, e]
    simp only [Bool.not_true, Bool.false_and, Bool.or_false, cond_false]
    by_cases h0 : (instrP (labels s) (rlines s)[k]).2 = 0
    · rw [decide_eq_true h0]
      simp only [cond_true]
      cases decide (((rpSt (rlines s) k).length : Int) ≥ 1000)
      · exact h0.symm
      · rfl
    · rw [decide_eq_false h0]
      rfl
theorem inv_all (s : Bs) : ∀ k, k ≤ (rlines s).length → (∀ q, q < k → rpE (rlines s) q = 0) → PInv s k
  | 0, _, _ => ⟨rfl, by simp [rpSt], fun b => by simp [pSt, cnt], fun b => by simp [pSt, cnt]⟩
  | k + 1, hk, hz => by
    have ih := inv_all s k (by omega) (fun q hq => hz q (by omega))
    have h : k < (rlines s).length := by omega
    have hE := hz k (by omega)
    obtain ⟨h2, hc⟩ := chunk_at s h
    obtain ⟨i1, i2, i0, i3⟩ := ih
    have hg : (rlines s).getD k [] = (rlines s)[k] := by simp [List.getD, h]
    unfold PInv
    rw [pSt_succ h2, hc, bare_end, rpSt_succ h]
    have hcd : lineC (labels s) (pSt (labels s) (chunks s) k).2 ((rlines s)[k] ++ [10]) = cond (rlab (rlines s)[k]) (rpSt (rlines s) k) (rpSt (rlines s) k ++ [(rinstr (rlines s) (rlines s)[k] (rpSt (rlines s) k).length).1]) ∧ (cond (rlab (rlines s)[k]) (rpSt (rlines s) k) (rpSt (rlines s) k ++ [(rinstr (rlines s) (rlines s)[k] (rpSt (rlines s) k).length).1])).length ≤ 1000 := by
      unfold lineC
      unfold rpE at hE
      rw [hg] at hE
      rw [bare_end, isLab_eq, i1]
      cases hr : rlab (rlines s)[k] with
      | true => exact ⟨rfl, i2⟩
      | false =>
        rw [hr] at hE
        obtain ⟨hn, he⟩ := instr_lt s _ _ hE
        simp only [cond_false]
        rw [he]
        refine ⟨rfl, ?_⟩
        rw [List.length_append]; simp; omega
    refine ⟨hcd.1, hcd.2, fun b => ?_, fun b => ?_⟩
    · rw [bump_cnt]
      have a := i0 (rlines s)[k]; have c := i0 b
      cases decide ((rlines s)[k] = b) <;> simp <;> omega
    · rw [bump_cnt, List.take_succ_eq_append_getElem h, List.any_append, ← i3]
      have a := i0 (rlines s)[k]
      by_cases e : (rlines s)[k] = b
      · simp only [List.any_cons, List.any_nil, Bool.or_false, decide_eq_true e, cond_true, Bool.or_true, decide_eq_true_eq]
        omega
      · simp only [List.any_cons, List.any_nil, Bool.or_false, decide_eq_false e, cond_false]
theorem parse_eq (s : Bs) : parseP s = rparse s := by
  unfold parseP rparse
  by_cases h4 : s.length > 40000
  · rw [decide_eq_true h4]; rfl
  · rw [decide_eq_false h4]
    simp only [cond_false]
    have hcut : chunks s = chunks s := rfl
    obtain ⟨x, hs, hc, hx⟩ := lines_split s
    obtain ⟨b1, b2⟩ := bad1_inv (e := rpE (rlines s)) (n := (rlines s).length)
    have hlen : (chunks s).length = (rlines s).length + (if x = [] then [] else [x] : List Bs).length := by rw [hc]; simp
    have hlx : (rsplit 10 s).getLast? = some x := by rw [hs]; simp
    have hln : (rsplit 10 s).length = (rlines s).length + 1 := by rw [hs]; simp
    cases hb : bad1 (rpE (rlines s)) (rlines s).length with
    | some k =>
      obtain ⟨k1, k2, k3⟩ := b2 k hb
      have hz : ∀ q, q ≤ k → pE (labels s) (chunks s) q = rpE (rlines s) q := fun q hq =>
        rpE_eq s (by omega) (inv_all s q (by omega) (fun p hp => k2 p (by omega)))
      have hp : bad1 (pE (labels s) (chunks s)) (chunks s).length = some k :=
        bad1_some (fun q hq => by rw [hz q (by omega)]; exact k2 q hq) (by rw [hz k (by omega)]; exact k3) (by omega)
      rw [hp]
      simp only
      rw [hz k (by omega)]
    | none =>
      have b1 := b1 hb
      have hi := inv_all s (rlines s).length (Nat.le_refl _) b1
      have hz : ∀ q, q < (rlines s).length → pE (labels s) (chunks s) q = 0 := fun q hq => by
        rw [rpE_eq s hq (inv_all s q (by omega) (fun p hp => b1 p (by omega)))]; exact b1 q hq
      rw [hlx]
      by_cases h0 : x = []
      · have hn : (chunks s).length = (rlines s).length := by rw [hlen, if_pos h0]; rfl
        rw [bad1_none (fun q hq => hz q (by omega)), hn]
        simp only
        rw [hi.1, h0]
        rfl
      · have hn : (chunks s).length = (rlines s).length + 1 := by rw [hlen, if_neg h0]; rfl
        have he : pE (labels s) (chunks s) (rlines s).length = 12 := by
          unfold pE
          rw [hc, List.getElem?_append_right (by simp), if_neg h0]
          simp only [List.length_map, Nat.sub_self, List.getElem?_cons_zero]
          unfold lineE
          rw [(no_end hx).1]
          rfl
        rw [bad1_some (k := (rlines s).length) hz (by rw [he]; decide) (by omega)]
        simp only
        rw [he, hln]
        have : decide (some x = some ([] : Bs)) = false := by simp [h0]
        rw [this]
        simp
end Go.AL
