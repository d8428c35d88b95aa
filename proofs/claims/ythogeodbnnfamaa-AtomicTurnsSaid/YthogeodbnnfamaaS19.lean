/-
  The law AtomicOwn by contracts. No conditions.
-/
import Derived.Test.YthogeodbnnfamaaS17
set_option linter.unusedVariables false
set_option linter.unusedSimpArgs false
set_option maxRecDepth 100000
namespace Go.AL
open Go Go.Proofs
attribute [local irreducible] J inB right may

def getV (m : List Pair) (k : Int) : Reply := if (valR m k).2 then ⟨0, (valR m k).1⟩ else ⟨8, 0⟩
theorem may_get {k : Int} (h1 : -1000000000 ≤ k) (h2 : k ≤ 1000000000) : may ⟨0, k, 0, 0⟩ = true := by
  unfold may inB; simp; omega
theorem get_A {m : List Pair} {k : Int} (hr : right m = true) (h1 : -1000000000 ≤ k) (h2 : k ≤ 1000000000) : doA m ⟨0, k, 0, 0⟩ = (m, getV m k, 0) := by
  have hc := may_get h1 h2
  have e : doS m ⟨0, k, 0, 0⟩ = (m, getV m k) := by
    rw [do_eq hr hc]
    unfold rdoS rdoB getV
    cases (valR m k).2 <;> simp
  simp [doA, hr, hc, e]
theorem wo_length {m : List Pair} (h : PW m) {k : Int} (hk : (valR m k).2 = true) : (wo m k).length + 1 = m.length := by
  induction m with
  | nil => cases hk
  | cons p m ih =>
    have h := List.pairwise_cons.1 h
    rw [val_cons] at hk
    rw [wo_cons]
    by_cases hp : p.key = k
    · subst hp
      rw [if_pos rfl, wo_above h.1]; rfl
    · rw [if_neg hp] at hk ⊢
      simp [ih h.2 hk]
theorem own_facts {m : List Pair} {c : Call} (hr : right m = true) (hc : may c = true) (k : Int) :
    (((doS m c).2.why ≠ 0 ∨ c.kind = 0 ∨ c.kind ≥ 5) → (doS m c).1 = m) ∧
    (¬ ((doS m c).2.why ≠ 0 ∨ c.kind = 0 ∨ c.kind ≥ 5) → (k ≠ c.key → getV m k = getV (doS m c).1 k) ∧
      (k = c.key → (c.kind = 4 → getV m k = ⟨0, (doS m c).2.value⟩ ∧ getV (doS m c).1 k = ⟨8, 0⟩ ∧ (doS m c).1.length + 1 = m.length) ∧
        (c.kind ≠ 4 → getV (doS m c).1 k = ⟨0, c.value⟩ ∧ (c.kind = 2 → (getV m k).why = 8) ∧ (c.kind = 3 → getV m k = ⟨0, c.old⟩)))) := by
  rw [do_eq hr hc]
  obtain ⟨k0, k7⟩ := may_kind hc
  have hw := @wo_length m (right_iff.1 hr).1 c.key
  have v1 := val_wo m c.key k
  have v2 := val_wi m c.key c.value k
  have v3 := val_wo m c.key c.key
  have v4 := val_wi m c.key c.value c.key
  unfold rdoS rdoB
  by_cases e5 : c.kind = 5
  · simp [e5]
  rw [if_neg e5]
  by_cases e6 : c.kind > 5
  · rw [if_pos e6]
    exact ⟨fun _ => rfl, fun h => absurd (Or.inr (Or.inr (by omega))) h⟩
  rw [if_neg e6]
  by_cases eP : c.kind = 1 ∨ c.kind = 2 ∧ (valR m c.key).2 = false ∨ c.kind = 3 ∧ (valR m c.key).2 = true ∧ (valR m c.key).1 = c.old
  · rw [if_pos eP]
    unfold rputS getV
    split
    · simp
    · refine ⟨fun h => ?_, fun h => ⟨fun hk => ?_, fun hk => ⟨fun h4 => ?_, fun h4 => ?_⟩⟩⟩
      · simp at h; omega
      · rw [v2, if_neg hk]
      · omega
      · subst hk
        rw [v4]
        grind
  · rw [if_neg eP]
    unfold getV
    cases hb : (valR m c.key).2
    · simp
    · by_cases e0 : c.kind = 0
      · simp [e0]
      by_cases e2 : c.kind = 2
      · simp [e2]
      by_cases e3 : c.kind = 3
      · simp [e3]
      have e4 : c.kind = 4 := by omega
      simp only [e0, e2, e3, if_false, Bool.true_eq_false]
      refine ⟨fun h => by simp [e4] at h, fun h => ⟨fun hk => by rw [v1, if_neg hk], fun hk => ⟨fun _ => ?_, fun h4 => absurd e4 h4⟩⟩⟩
      subst hk
      rw [v3]
      simp [hb, hw hb]
def clamp (k : Int) : Int := if 1000000000 < (if -1000000000 > k then -1000000000 else k) then 1000000000 else (if -1000000000 > k then -1000000000 else k)
theorem eqR : EqTy Try.prog 28 2 := eqty rfl rfl rfl (by kernel_rfl) (by kernel_rfl)
theorem ownA_ok (M : List Pair) (c : Call) (key : Int) (hM : M.length ≤ 9223372036854775807) :
    ACalls Try.prog 4 [.sl (M.map encP), encC c, .v (.int .i64 key)] [] (one (.v (.bool true)) []) := by
  have hfew := few_ok M hM
  have hm : (M.take 14).length ≤ 14 := by rw [List.length_take]; omega
  generalize M.take 14 = m at hfew hm
  have hdo := Do_ok m c (by omega)
  cases h1 : right m && may c
  · have e1 : doA m c = ([], ⟨0, 0⟩, 1) := by simp [doA, h1]
    rw [e1] at hdo
    refine jcalls Try.func4 rfl (by kernel_rfl) Try.ntmps4 rfl rfl (fun w0 β0 ext hβ => ?_)
    repeat (first | refine js rfl ?_ | (refine jdraw ?_ ?_; · kernel_rfl) | refine jv hfew rfl rfl rfl rfl rfl ?_ | refine jv hdo rfl rfl rfl rfl rfl ?_ | refine jv alive_ok rfl rfl rfl rfl rfl ?_)
    exact jr rfl rfl rfl rfl
  · simp only [Bool.and_eq_true] at h1
    obtain ⟨hr, hc⟩ := h1
    have e1 : doA m c = ((doS m c).1, (doS m c).2, 0) := by simp [doA, hr, hc]
    rw [e1] at hdo
    have hn := do_right hr hc
    have hf := own_facts hr hc
    have hf0 : (doS m c).1 = m → getV m (clamp key) = getV (doS m c).1 (clamp key) := fun h => by rw [h]
    generalize doS m c = q at hdo hn hf hf0
    obtain ⟨n, w, v⟩ := q
    dsimp only at hdo hn hf hf0
    have hrn := right_ok n (by have := right_len hn; omega)
    rw [hn] at hrn
    have hcl : -1000000000 ≤ clamp key ∧ clamp key ≤ 1000000000 := by unfold clamp; repeat' split
                                                                      all_goals omega
    replace hf := hf (clamp key)
    have hd1 := Do_ok m ⟨0, clamp key, 0, 0⟩ (by omega)
    rw [get_A hr hcl.1 hcl.2] at hd1
    have hd2 := Do_ok n ⟨0, clamp key, 0, 0⟩ (by have := right_len hn; omega)
    rw [get_A hn hcl.1 hcl.2] at hd2
    generalize getV m (clamp key) = b at hd1 hf hf0
    generalize getV n (clamp key) = a at hd2 hf hf0
    obtain ⟨bw, bv⟩ := b
    obtain ⟨aw, av⟩ := a
    obtain ⟨kind, ck, cv, co⟩ := c
    dsimp only at hf
    have hs : n = m → ACalls Try.prog 19 [.sl (n.map encP), .sl (m.map encP)] [] (one (.v (.bool true)) []) := fun h => by
      subst h; exact same_ok n (by omega)
    have hlm : IntKind.i64.wrap ((m.length : Int) - 1) = (m.length : Int) - 1 := by rw [wrap_id] <;> omega
    simp only [Reply.mk.injEq] at hf hf0
    refine jcalls Try.func4 rfl (by kernel_rfl) Try.ntmps4 rfl rfl (fun w0 β0 ext hβ => ?_)
    repeat (first | refine js rfl ?_ | (refine jdraw ?_ ?_; · kernel_rfl) | refine jv hfew rfl rfl rfl rfl rfl ?_ | refine jv hdo rfl rfl rfl rfl rfl ?_ | refine jv alive_ok rfl rfl rfl rfl rfl ?_ | refine jv hrn rfl rfl rfl rfl rfl ?_)
    simp only [clamp] at hf
    repeat (first | refine js rfl ?_ | (refine jdraw ?_ ?_; · kernel_rfl) | refine jv hd1 rfl rfl rfl rfl rfl ?_ | refine jv hd2 rfl rfl rfl rfl rfl ?_)
    repeat' (first | refine js rfl ?_ | (refine jdraw ?_ ?_; · kernel_rfl) | refine jo rfl rfl (eq2 eqR rfl rfl) rfl rfl ?_ | refine jv (hs (hf.1 (by omega))) rfl rfl rfl rfl rfl ?_ | refine jo rfl rfl (index_at rfl rfl rfl rfl rfl rfl rfl rfl (by omega) (by omega)) rfl rfl ?_ | (refine jc rfl rfl rfl (fun h => ?_) (fun h => ?_) <;> (try simp only [decide_eq_true_eq, decide_eq_false_iff_not, beq_iff_eq, beq_eq_false_iff_ne, bne_iff_ne, bne_eq_false_iff_eq, ne_eq] at h) <;> (try (exfalso; omega))) | (refine jg rfl rfl rfl rfl (fun h => ?_) (fun h => ?_) <;> (fail_if_success (exact absurd h (by decide))) <;> (try simp only [decide_eq_true_eq, decide_eq_false_iff_not, beq_iff_eq, beq_eq_false_iff_ne, bne_iff_ne, bne_eq_false_iff_eq, ne_eq] at h) <;> (try (exfalso; omega))))
    all_goals refine jr rfl rfl ?_ rfl
    all_goals refine congrArg (fun b => AVal.v (.bool b)) ?_
    all_goals clear hfew hdo hd1 hd2 hrn hs
    all_goals try rw [hlm]
    all_goals simp only [List.length_map]
    all_goals grind
end Go.AL
