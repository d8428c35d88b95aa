/-
  Spans: which may be, which are ahead of others, and the reference's words on rows of them. No conditions.
-/
import Derived.Test.YthogeodbnnfamaaS16
import Derived.Test.YthogeodbnnfamaaL4
set_option linter.unusedVariables false
set_option linter.unusedSimpArgs false
set_option maxRecDepth 100000
namespace Go.AL
open Go Go.Proofs
attribute [local irreducible] J inB right may

structure Span where
  th : Int
  n : Int
  call : Call
  reply : Reply
  frm : Int
  to : Int
instance : Inhabited Span := ⟨⟨0, 0, ⟨0, 0, 0, 0⟩, ⟨0, 0⟩, 0, 0⟩⟩
def encSp (s : Span) : AVal := .agg [.v (.int .i64 s.th), .v (.int .i64 s.n), .v (.int .i64 s.call.kind), .v (.int .i64 s.call.key), .v (.int .i64 s.call.value), .v (.int .i64 s.call.old), .v (.int .i64 s.reply.why), .v (.int .i64 s.reply.value), .v (.int .i64 s.frm), .v (.int .i64 s.to)]
def encI (n : Int) : AVal := .v (.int .i64 n)

def before (a b : Span) : Bool := decide (a.to ≥ 0) && decide (a.to < b.frm)
theorem before_ok (a b : Span) : ACalls Try.prog 64 [encSp a, encSp b] [] (one (.v (.bool (before a b))) []) := by
  refine jcalls Try.func64 rfl (by kernel_rfl) Try.ntmps64 rfl rfl (fun w0 β0 ext hβ => ?_)
  repeat (first | refine js rfl ?_ | (refine jdraw ?_ ?_; · kernel_rfl) | refine jbu rfl rfl rfl rfl ?_)
  refine jg rfl rfl rfl rfl (fun h => ?_) (fun h => ?_)
  · repeat (first | refine js rfl ?_ | (refine jdraw ?_ ?_; · kernel_rfl) | refine jbu rfl rfl rfl rfl ?_)
    refine jr rfl rfl ?_ rfl
    rw [before, h]; rfl
  · repeat (first | refine js rfl ?_ | (refine jdraw ?_ ?_; · kernel_rfl) | refine jbu rfl rfl rfl rfl ?_)
    refine jr rfl rfl ?_ rfl
    rw [before, h]; rfl
theorem rbefore_ok (a b : Span) : ACalls Try.prog 66 [encSp a, encSp b] [] (one (.v (.bool (before a b))) []) := by
  refine jcalls Try.func66 rfl (by kernel_rfl) Try.ntmps66 rfl rfl (fun w0 β0 ext hβ => ?_)
  repeat (first | refine js rfl ?_ | (refine jdraw ?_ ?_; · kernel_rfl) | refine jbu rfl rfl rfl rfl ?_)
  refine jg rfl rfl rfl rfl (fun h => ?_) (fun h => ?_)
  · repeat (first | refine js rfl ?_ | (refine jdraw ?_ ?_; · kernel_rfl) | refine jbu rfl rfl rfl rfl ?_)
    refine jr rfl rfl ?_ rfl
    rw [before, h]; rfl
  · repeat (first | refine js rfl ?_ | (refine jdraw ?_ ?_; · kernel_rfl) | refine jbu rfl rfl rfl rfl ?_)
    refine jr rfl rfl ?_ rfl
    rw [before, h]; rfl
def badSp (s : Span) : Bool := !may s.call || decide (s.frm < 0) || decide (s.to < -1) || (decide (s.to ≥ 0) && decide (s.to ≤ s.frm))
theorem bad_ok (s : Span) : ACalls Try.prog 62 [encSp s] [] (one (.v (.bool (badSp s))) []) := by
  have hm := may_ok s.call
  unfold badSp
  generalize may s.call = b at hm
  cases b
  · refine jcalls Try.func62 rfl (by kernel_rfl) Try.ntmps62 rfl rfl (fun w0 β0 ext hβ => ?_)
    repeat (first | refine js rfl ?_ | (refine jdraw ?_ ?_; · kernel_rfl) | refine jbu rfl rfl rfl rfl ?_ | refine jv hm rfl rfl rfl rfl rfl ?_)
    exact jr rfl rfl rfl rfl
  · refine jcalls Try.func62 rfl (by kernel_rfl) Try.ntmps62 rfl rfl (fun w0 β0 ext hβ => ?_)
    repeat' (first | refine js rfl ?_ | (refine jdraw ?_ ?_; · kernel_rfl) | refine jbu rfl rfl rfl rfl ?_ | refine jv hm rfl rfl rfl rfl rfl ?_ | refine jo rfl rfl (index_at rfl rfl rfl rfl rfl rfl rfl rfl (by omega) (by omega)) rfl rfl ?_ | (refine jc rfl rfl rfl (fun h => ?_) (fun h => ?_) <;> (try simp only [decide_eq_true_eq, decide_eq_false_iff_not, beq_iff_eq, beq_eq_false_iff_ne, bne_iff_ne, bne_eq_false_iff_eq, ne_eq] at h) <;> (try (exfalso; omega))) | (refine jg rfl rfl rfl rfl (fun h => ?_) (fun h => ?_) <;> (fail_if_success (exact absurd h (by decide))) <;> (try simp only [decide_eq_true_eq, decide_eq_false_iff_not, beq_iff_eq, beq_eq_false_iff_ne, bne_iff_ne, bne_eq_false_iff_eq, ne_eq] at h) <;> (try (exfalso; omega))))
    all_goals refine jr rfl rfl ?_ rfl
    all_goals refine congrArg (fun b => AVal.v (.bool b)) ?_
    all_goals grind
theorem index_ok (l : List Span) (hl : l.length ≤ 1000000) : ACalls Try.prog 71 [.sl (l.map encSp), .fn (.func 62) [] []] [] (one (.v (.int .i64 (match l.findIdx? badSp with | some i => (i : Int) | none => -1))) []) := by
  refine jcalls Try.func71 rfl (by kernel_rfl) Try.ntmps71 rfl rfl (fun w0 β0 ext hβ => ?_)
  repeat (first | refine js rfl ?_ | (refine jdraw ?_ ?_; · kernel_rfl) | refine jbu rfl rfl rfl rfl ?_)
  refine jloop (ι := Nat) 0 (fun i => i ≤ l.length ∧ ∀ j, j < i → badSp (at' l (j : Int)) = false) [0, 1, 7, 8] (fun i => [.sl (l.map encSp), .fn (.func 62) [] [], .v (.int .i64 l.length), .v (.int .i64 i)]) (fun _ => []) (fun i => l.length - i) 0 (Nat.le_of_eq hβ) ⟨by omega, by simp⟩ (by simp only [List.length_map]; rfl) rfl ?_
  rintro i ⟨hi, hv⟩
  repeat (first | refine js rfl ?_ | (refine jdraw ?_ ?_; · kernel_rfl) | refine jbu rfl rfl rfl rfl ?_)
  refine jc rfl rfl rfl (fun h => ?_) (fun h => ?_)
  · have h := of_decide_eq_true h
    have hi1 : i < l.length := by omega
    have w1 := idx_next hi1 (by omega)
    have hb := bad_ok (at' l (i : Int))
    repeat (first | refine js rfl ?_ | (refine jdraw ?_ ?_; · kernel_rfl) | refine jbu rfl rfl rfl rfl ?_)
    refine jo rfl rfl (index_at rfl rfl rfl rfl rfl rfl rfl rfl (by omega) (by omega)) rfl rfl ?_
    cases hbb : badSp (at' l (i : Int))
    · rw [hbb] at hb
      repeat (first | refine js rfl ?_ | (refine jdraw ?_ ?_; · kernel_rfl) | refine jbu rfl rfl rfl rfl ?_ | refine jv hb rfl rfl rfl rfl rfl ?_)
      exact jnext (i + 1) ⟨hi1, fun j hj => by
        rcases Nat.lt_or_ge j i with h4 | h4
        · exact hv j h4
        · have : j = i := by omega
          subst this; exact hbb⟩ (by omega) rfl rfl rfl (by rw [w1]) rfl
    · rw [hbb] at hb
      have e : l.findIdx? badSp = some i := by
        rw [List.findIdx?_eq_some_iff_getElem]
        refine ⟨hi1, by rw [← at_nat l i hi1]; exact hbb, fun j hj => ?_⟩
        have := hv j hj
        rw [at_nat l j (by omega)] at this
        simp [this]
      rw [e]
      repeat (first | refine js rfl ?_ | (refine jdraw ?_ ?_; · kernel_rfl) | refine jbu rfl rfl rfl rfl ?_ | refine jv hb rfl rfl rfl rfl rfl ?_)
      exact jr rfl rfl rfl rfl
  · have h := of_decide_eq_false h
    have hi2 : i = l.length := by omega
    subst hi2
    have e : l.findIdx? badSp = none := by
      rw [List.findIdx?_eq_none_iff]
      intro x hx
      obtain ⟨j, hj, rfl⟩ := List.getElem_of_mem hx
      have := hv j hj
      rwa [at_nat l j hj] at this
    rw [e]
    repeat (first | refine js rfl ?_ | (refine jdraw ?_ ?_; · kernel_rfl) | refine jbu rfl rfl rfl rfl ?_)
    exact jr rfl rfl rfl rfl
theorem contains_ok (l : List Span) (hl : l.length ≤ 1000000) : ACalls Try.prog 63 [.sl (l.map encSp), .fn (.func 62) [] []] [] (one (.v (.bool (l.any badSp))) []) := by
  have h := index_ok l hl
  have e : l.any badSp = decide ((match l.findIdx? badSp with | some i => (i : Int) | none => -1) ≥ 0) := by
    cases hf : l.findIdx? badSp with
    | none =>
      rw [List.findIdx?_eq_none_iff] at hf
      simpa using hf
    | some i =>
      rw [List.findIdx?_eq_some_iff_getElem] at hf
      obtain ⟨h1, h2, _⟩ := hf
      have : l.any badSp = true := List.any_eq_true.2 ⟨_, List.getElem_mem h1, h2⟩
      rw [this]; simp
  rw [e]
  refine jcalls Try.func63 rfl (by kernel_rfl) Try.ntmps63 rfl rfl (fun w0 β0 ext hβ => ?_)
  repeat (first | refine js rfl ?_ | (refine jdraw ?_ ?_; · kernel_rfl) | refine jbu rfl rfl rfl rfl ?_ | refine jv h rfl rfl rfl rfl rfl ?_)
  exact jr rfl rfl rfl rfl

/-! ### the reference -/
theorem spans_ok (l : List Span) (hl : l.length ≤ 1000000) : ACalls Try.prog 29 [.sl (l.map encSp)] [] (one (.v (.bool (!(l.any badSp)))) []) := by
  refine jcalls Try.func29 rfl (by kernel_rfl) Try.ntmps29 rfl rfl (fun w0 β0 ext hβ => ?_)
  repeat (first | refine js rfl ?_ | (refine jdraw ?_ ?_; · kernel_rfl) | refine jbu rfl rfl rfl rfl ?_)
  refine jloop (ι := Nat) 0 (fun i => i ≤ l.length ∧ l.any badSp = (l.drop i).any badSp) [5, 6, 7] (fun i => [.sl (l.map encSp), .v (.int .i64 l.length), .v (.int .i64 i)]) (fun _ => []) (fun i => l.length - i) 0 (Nat.le_of_eq hβ) ⟨by omega, rfl⟩ (by simp only [List.length_map]; rfl) rfl ?_
  rintro i ⟨hi, hv⟩
  repeat (first | refine js rfl ?_ | (refine jdraw ?_ ?_; · kernel_rfl) | refine jbu rfl rfl rfl rfl ?_)
  refine jc rfl rfl rfl (fun h => ?_) (fun h => ?_)
  · have h := of_decide_eq_true h
    have hi1 : i < l.length := by omega
    have w1 := idx_next hi1 (by omega)
    rw [List.drop_eq_getElem_cons hi1, List.any_cons, ← at_nat l i hi1] at hv
    generalize hs : at' l (i : Int) = s at hv
    have hm := rmay_ok s.call
    have hbs : badSp s = (!may s.call || decide (s.frm < 0) || decide (s.to < -1) || (decide (s.to ≥ 0) && decide (s.to ≤ s.frm))) := rfl
    generalize may s.call = b at hm hbs
    repeat (first | refine js rfl ?_ | (refine jdraw ?_ ?_; · kernel_rfl) | refine jbu rfl rfl rfl rfl ?_)
    refine jo rfl rfl (index_at rfl rfl rfl rfl rfl rfl rfl rfl (by omega) (by omega)) rfl rfl ?_
    rw [hs]
    cases b
    · repeat (first | refine js rfl ?_ | (refine jdraw ?_ ?_; · kernel_rfl) | refine jbu rfl rfl rfl rfl ?_ | refine jv hm rfl rfl rfl rfl rfl ?_)
      rw [hv, hbs]
      exact jr rfl rfl rfl rfl
    · repeat' (first | refine js rfl ?_ | (refine jdraw ?_ ?_; · kernel_rfl) | refine jbu rfl rfl rfl rfl ?_ | refine jv hm rfl rfl rfl rfl rfl ?_ | refine jo rfl rfl (index_at rfl rfl rfl rfl rfl rfl rfl rfl (by omega) (by omega)) rfl rfl ?_ | (refine jc rfl rfl rfl (fun h => ?_) (fun h => ?_) <;> (try simp only [decide_eq_true_eq, decide_eq_false_iff_not, beq_iff_eq, beq_eq_false_iff_ne, bne_iff_ne, bne_eq_false_iff_eq, ne_eq] at h) <;> (try (exfalso; omega))) | (refine jg rfl rfl rfl rfl (fun h => ?_) (fun h => ?_) <;> (fail_if_success (exact absurd h (by decide))) <;> (try simp only [decide_eq_true_eq, decide_eq_false_iff_not, beq_iff_eq, beq_eq_false_iff_ne, bne_iff_ne, bne_eq_false_iff_eq, ne_eq] at h) <;> (try (exfalso; omega))))
      all_goals first
        | (refine jr rfl rfl ?_ rfl; refine congrArg (fun b => AVal.v (.bool b)) ?_; grind)
        | exact jnext (i + 1) ⟨hi1, by rw [hv, hbs]; grind⟩ (by omega) rfl rfl rfl (by rw [w1]) rfl
  · have h := of_decide_eq_false h
    have hi2 : i = l.length := by omega
    subst hi2
    rw [hv, List.drop_length]
    repeat (first | refine js rfl ?_ | (refine jdraw ?_ ?_; · kernel_rfl) | refine jbu rfl rfl rfl rfl ?_)
    exact jr rfl rfl rfl rfl
theorem has_ok (row : List Int) (n : Int) (hl : row.length ≤ 1000000) : ACalls Try.prog 65 [.sl (row.map encI), .v (.int .i64 n)] [] (one (.v (.bool (row.contains n))) []) := by
  refine jcalls Try.func65 rfl (by kernel_rfl) Try.ntmps65 rfl rfl (fun w0 β0 ext hβ => ?_)
  repeat (first | refine js rfl ?_ | (refine jdraw ?_ ?_; · kernel_rfl) | refine jbu rfl rfl rfl rfl ?_)
  refine jloop (ι := Nat) 0 (fun i => i ≤ row.length ∧ row.contains n = (row.drop i).contains n) [1, 7, 8, 9] (fun i => [.v (.int .i64 n), .sl (row.map encI), .v (.int .i64 row.length), .v (.int .i64 i)]) (fun _ => []) (fun i => row.length - i) 0 (Nat.le_of_eq hβ) ⟨by omega, rfl⟩ (by simp only [List.length_map]; rfl) rfl ?_
  rintro i ⟨hi, hv⟩
  repeat (first | refine js rfl ?_ | (refine jdraw ?_ ?_; · kernel_rfl) | refine jbu rfl rfl rfl rfl ?_)
  refine jc rfl rfl rfl (fun h => ?_) (fun h => ?_)
  · have h := of_decide_eq_true h
    have hi1 : i < row.length := by omega
    have w1 := idx_next hi1 (by omega)
    rw [List.drop_eq_getElem_cons hi1, List.contains_cons, ← at_nat row i hi1] at hv
    repeat (first | refine js rfl ?_ | (refine jdraw ?_ ?_; · kernel_rfl) | refine jbu rfl rfl rfl rfl ?_)
    refine jo rfl rfl (index_at rfl rfl rfl rfl rfl rfl rfl rfl (by omega) (by omega)) rfl rfl ?_
    repeat (first | refine js rfl ?_ | (refine jdraw ?_ ?_; · kernel_rfl) | refine jbu rfl rfl rfl rfl ?_)
    refine jc rfl rfl rfl (fun h => ?_) (fun h => ?_)
    · have h : at' row (i : Int) = n := by simpa using h
      repeat (first | refine js rfl ?_ | (refine jdraw ?_ ?_; · kernel_rfl) | refine jbu rfl rfl rfl rfl ?_)
      rw [hv, h]
      refine jr rfl rfl ?_ rfl
      simp
    · have h : ¬ at' row (i : Int) = n := by simpa using h
      repeat (first | refine js rfl ?_ | (refine jdraw ?_ ?_; · kernel_rfl) | refine jbu rfl rfl rfl rfl ?_)
      exact jnext (i + 1) ⟨hi1, by rw [hv]; simp; omega⟩ (by omega) rfl rfl rfl (by rw [w1]) rfl
  · have h := of_decide_eq_false h
    have hi2 : i = row.length := by omega
    subst hi2
    rw [hv, List.drop_length]
    repeat (first | refine js rfl ?_ | (refine jdraw ?_ ?_; · kernel_rfl) | refine jbu rfl rfl rfl rfl ?_)
    exact jr rfl rfl rfl rfl
end Go.AL
