/-
  The reference's words on numbers. No conditions.
-/
import Derived.Test.YtaoiflliakjhdaaDoorV2
set_option linter.unusedVariables false
set_option linter.unusedSimpArgs false
set_option maxRecDepth 100000
namespace Go.AL
open Go Go.Proofs
attribute [local irreducible] J

def isDig (c : UInt8) : Bool := !(decide ((c.toNat : Int) < 48) || decide ((c.toNat : Int) > 57))
def dsum (t : Bs) (i : Nat) : Int := (t.take i).foldl (fun n c => 10 * n + ((c.toNat : Int) - 48)) 0
theorem dsum_succ {t : Bs} {i : Nat} {d : UInt8} (h : t[i]? = some d) : dsum t (i + 1) = 10 * dsum t i + ((d.toNat : Int) - 48) := by
  obtain ⟨hi, hd⟩ := List.getElem?_eq_some_iff.1 h
  unfold dsum
  rw [List.take_succ_eq_append_getElem hi, List.foldl_append, hd]; rfl
theorem dsum_le (t : Bs) : ∀ i, (∀ q, q < i → isDig (t.getD q 48) = true) → 0 ≤ dsum t i ∧ dsum t i < (10 ^ i : Nat)
  | 0, _ => by simp [dsum]
  | i + 1, h => by
    obtain ⟨h1, h2⟩ := dsum_le t i fun q hq => h q (by omega)
    cases hd : t[i]? with
    | none =>
      have e : dsum t (i + 1) = dsum t i := by
        have := List.getElem?_eq_none_iff.1 hd
        unfold dsum
        rw [List.take_of_length_le (by omega), List.take_of_length_le (by omega)]
      rw [e]
      have : 10 ^ i ≤ 10 ^ (i + 1) := Nat.pow_le_pow_right (by omega) (by omega)
      omega
    | some d =>
      rw [dsum_succ hd]
      have hdg := h i (by omega)
      have hdd : t.getD i 48 = d := by simp [List.getD, hd]
      rw [hdd] at hdg
      unfold isDig at hdg
      simp at hdg
      have : 10 ^ (i + 1) = 10 * 10 ^ i := by rw [Nat.pow_succ]; omega
      omega
def rnumT (bl : Bool) (t : Bs) : Int × Bool :=
  match t with
  | [] => (0, false)
  | c :: r => cond (decide (r.length + 1 > 10) || (decide (c = 48) && (decide (r.length + 1 > 1) || bl))) (0, false)
      (cond ((c :: r).all isDig) (cond (decide (dsum (c :: r) (r.length + 1) > 1000000000)) (0, false) (cond bl (0 - dsum (c :: r) (r.length + 1)) (dsum (c :: r) (r.length + 1)), true)) (0, false))
def rnum (s : Bs) : Int × Bool :=
  match s with
  | [] => (0, false)
  | c :: r => cond (decide (c = 45)) (rnumT true r) (rnumT false (c :: r))
theorem rnum_ok (s : Bs) (hs : s.length ≤ 1000000) : ACalls Tryd.prog 70 [sv s] [] (one (.tup [iv (rnum s).1, bv (rnum s).2]) []) := by
  cases s with
  | nil =>
    unfold sv S
    refine jcalls Tryd.func70 rfl (by kernel_rfl) Tryd.ntmps70 rfl rfl (fun w0 β0 ext hβ => ?_)
    repeat (first | refine js rfl ?_ | (refine jdraw ?_ ?_; · kernel_rfl) | refine jbu rfl rfl rfl rfl ?_)
    exact jr rfl rfl rfl rfl
  | cons c r =>
    have hl : ByteArray.size ⟨(c :: r).toArray⟩ = r.length + 1 := rfl
    have e1 : decide ((ByteArray.size ⟨(c :: r).toArray⟩ : Int) > 0) = true := decide_eq_true (by rw [hl]; omega)
    have e45 : ((c.toNat : Int) == 45) = decide (c = 45) := u8_eq c 45
    unfold rnum
    refine jcalls Tryd.func70 rfl (by kernel_rfl) Tryd.ntmps70 rfl rfl (fun w0 β0 ext hβ => ?_)
    repeat (first | refine js rfl ?_ | (refine jdraw ?_ ?_; · kernel_rfl) | refine jbu rfl rfl rfl rfl ?_)
    rw [e1]
    repeat (first | refine js rfl ?_ | (refine jdraw ?_ ?_; · kernel_rfl) | refine jbu rfl rfl rfl rfl ?_ | refine jo rfl rfl (index_str rfl rfl rfl rfl (by decide) (c := c) rfl) rfl rfl ?_)
    rw [e45]
    simp only
    cases hb : decide (c = 45) with
    | true =>
      repeat (first | refine js rfl ?_ | refine jbu rfl rfl rfl rfl ?_)
      refine jo rfl rfl (cutL 1 rfl rfl rfl rfl rfl (by simp)) rfl rfl ?_
      refine js rfl ?_
      refine jre 0 (sv r) rfl rfl rfl ?_
      clear hl e1 e45 hb
      cases r with
      | nil =>
        unfold sv S
        repeat (first | refine js rfl ?_ | (refine jdraw ?_ ?_; · kernel_rfl) | refine jbu rfl rfl rfl rfl ?_)
        exact jr rfl rfl rfl rfl
      | cons c r =>
        have hl1 : ByteArray.size ⟨(c :: r).toArray⟩ = r.length + 1 := rfl
        have f1 : decide ((ByteArray.size ⟨(c :: r).toArray⟩ : Int) < 1) = false := decide_eq_false (by rw [hl1]; omega)
        have f2 : decide ((ByteArray.size ⟨(c :: r).toArray⟩ : Int) > 10) = decide (r.length + 1 > 10) := by rw [hl1, Bool.eq_iff_iff]; simp; omega
        have f3 : decide ((ByteArray.size ⟨(c :: r).toArray⟩ : Int) > 1) = decide (r.length + 1 > 1) := by rw [hl1, Bool.eq_iff_iff]; simp; omega
        have e48 : ((c.toNat : Int) == 48) = decide (c = 48) := u8_eq c 48
        repeat (first | refine js rfl ?_ | (refine jdraw ?_ ?_; · kernel_rfl) | refine jbu rfl rfl rfl rfl ?_)
        rw [f1]
        repeat (first | refine js rfl ?_ | (refine jdraw ?_ ?_; · kernel_rfl) | refine jbu rfl rfl rfl rfl ?_)
        rw [f2]
        unfold rnumT
        simp only
        cases hb1 : decide (r.length + 1 > 10) with
        | true =>
          repeat (first | refine js rfl ?_ | (refine jdraw ?_ ?_; · kernel_rfl) | refine jbu rfl rfl rfl rfl ?_)
          exact jr rfl rfl rfl rfl
        | false =>
          repeat (first | refine js rfl ?_ | (refine jdraw ?_ ?_; · kernel_rfl) | refine jbu rfl rfl rfl rfl ?_ | refine jo rfl rfl (index_str rfl rfl rfl rfl (by decide) (c := c) rfl) rfl rfl ?_)
          rw [e48]
          cases h48 : decide (c = 48) with
          | false =>
            repeat (first | refine js rfl ?_ | (refine jdraw ?_ ?_; · kernel_rfl) | refine jbu rfl rfl rfl rfl ?_)
            simp only [Bool.false_or, Bool.or_false, Bool.and_false, Bool.false_and, cond_false]
            have hlen : (c :: r).length ≤ 10 := by have := of_decide_eq_false hb1; simp; omega
            have hln : r.length + 1 = (c :: r).length := rfl
            rw [hln]
            clear f1 f2 f3 e48 h48 hb1 hl1 hln
            generalize c :: r = s at *
            refine jloopI (fun i : Nat => i ≤ s.length ∧ ∀ q, q < i → isDig (s.getD q 48) = true) [0, 4, 5, 6] (fun i => [sv s, .v (.bool true), .v (.int .i64 (dsum s i)), .v (.int .i64 (i : Int))]) (fun _ => []) (fun i => s.length - i) 0 ⟨Nat.zero_le _, fun q h => absurd h (by omega)⟩ rfl rfl (fun i hi => ?_)
            obtain ⟨hi, hok⟩ := hi
            have hbd := dsum_le s i hok
            have hp : 10 ^ i ≤ 10 ^ 10 := Nat.pow_le_pow_right (by omega) (by omega)
            have hl2 : ByteArray.size ⟨s.toArray⟩ = s.length := rfl
            repeat (first | refine js rfl ?_ | (refine jdraw ?_ ?_; · kernel_rfl) | refine jbu rfl rfl rfl rfl ?_)
            refine jc rfl rfl rfl (fun h => ?_) (fun h => ?_)
            · have h := of_decide_eq_true h
              have hi2 : i < s.length := by rw [hl2] at h; omega
              obtain ⟨d, hd⟩ : ∃ d, s[i]? = some d := ⟨_, List.getElem?_eq_getElem hi2⟩
              have hdd : s.getD i 48 = d := by simp [List.getD, hd]
              have hdm : d ∈ s := List.mem_of_getElem? hd
              have hat := str_at hd
              have hnx := idx_next hi2 (by omega)
              have hsum := dsum_succ hd
              have hgo : isDig d = true → ∀ q, q < i + 1 → isDig (s.getD q 48) = true := fun h0 q hq => by
                by_cases hqi : q = i
                · subst hqi; rw [hdd]; exact h0
                · exact hok q (by omega)
              have hno : isDig d = false → s.all isDig = false := fun h0 => by
                rw [List.all_eq_false]; exact ⟨d, hdm, by rw [h0]; simp⟩
              have hd255 := d.toNat_lt
              have hw : 48 ≤ (d.toNat : Int) → IntKind.i64.wrap (IntKind.i64.wrap (10 * dsum s i) + IntKind.i64.wrap (IntKind.u8.wrap ((d.toNat : Int) - 48))) = dsum s (i + 1) := fun h48 => by
                have e1 : IntKind.u8.wrap ((d.toNat : Int) - 48) = (d.toNat : Int) - 48 := by
                  simp only [IntKind.wrap, IntKind.bits, IntKind.signed]
                  simp
                  omega
                rw [e1, wrap_id (n := (d.toNat : Int) - 48) (by omega) (by omega), wrap_id (n := 10 * dsum s i) (by omega) (by omega), hsum, wrap_id (by omega) (by omega)]
              clear h hok
              repeat' (first | refine js rfl ?_ | (refine jdraw ?_ ?_; · kernel_rfl) | refine jbu rfl rfl rfl rfl ?_ | refine jo rfl rfl (index_str rfl rfl rfl rfl (Int.natCast_nonneg i) hat) rfl rfl ?_ | refine jo rfl rfl (index_at rfl rfl rfl rfl rfl rfl rfl rfl (by omega) (by omega)) rfl rfl ?_ | (refine jc rfl rfl rfl (fun h => ?_) (fun h => ?_) <;> (try simp only [decide_eq_true_eq, decide_eq_false_iff_not, beq_iff_eq, beq_eq_false_iff_ne, bne_iff_ne, bne_eq_false_iff_eq, ne_eq] at h) <;> (try (exfalso; omega))) | (refine jg rfl rfl rfl rfl (fun h => ?_) (fun h => ?_) <;> (fail_if_success (exact absurd h (by decide))) <;> (try simp only [decide_eq_true_eq, decide_eq_false_iff_not, beq_iff_eq, beq_eq_false_iff_ne, bne_iff_ne, bne_eq_false_iff_eq, ne_eq] at h) <;> (try (exfalso; omega))))
              all_goals first
                | (refine jnextI (i + 1) ⟨by omega, hgo (by unfold isDig; simp; omega)⟩ ?_ rfl (by omega)
                   show some _ = some _
                   rw [hnx, hw (by omega)])
                | (rw [hno (by unfold isDig; simp; omega)]
                   exact jr rfl rfl rfl rfl)
            · have h := of_decide_eq_false h
              have hi2 : i = s.length := by rw [hl2] at h; omega
              subst hi2
              have hall : s.all isDig = true := by
                rw [List.all_eq_true]
                intro x hx
                obtain ⟨q, hq, rfl⟩ := List.getElem_of_mem hx
                have := hok q (by omega)
                simpa [List.getD, hq] using this
              rw [hall]
              simp only [cond_true]
              have hneg : IntKind.i64.wrap (0 - dsum s s.length) = 0 - dsum s s.length := wrap_id (by omega) (by omega)
              repeat (first | refine js rfl ?_ | (refine jdraw ?_ ?_; · kernel_rfl) | refine jbu rfl rfl rfl rfl ?_)
              cases hgt : decide (dsum s s.length > 1000000000) with
              | true =>
                repeat (first | refine js rfl ?_ | (refine jdraw ?_ ?_; · kernel_rfl) | refine jbu rfl rfl rfl rfl ?_)
                exact jr rfl rfl rfl rfl
              | false =>
                repeat (first | refine js rfl ?_ | (refine jdraw ?_ ?_; · kernel_rfl) | refine jbu rfl rfl rfl rfl ?_)
                try rw [hneg]
                exact jr rfl rfl rfl rfl
          | true =>
            repeat (first | refine js rfl ?_ | (refine jdraw ?_ ?_; · kernel_rfl) | refine jbu rfl rfl rfl rfl ?_)
            rw [f3]
            cases h1 : decide (r.length + 1 > 1) with
            | true =>
              repeat (first | refine js rfl ?_ | (refine jdraw ?_ ?_; · kernel_rfl) | refine jbu rfl rfl rfl rfl ?_)
              exact jr rfl rfl rfl rfl
            | false =>
              repeat (first | refine js rfl ?_ | (refine jdraw ?_ ?_; · kernel_rfl) | refine jbu rfl rfl rfl rfl ?_)
              exact jr rfl rfl rfl rfl
    | false =>
      clear e1 e45 hl hb
      have hl1 : ByteArray.size ⟨(c :: r).toArray⟩ = r.length + 1 := rfl
      have f1 : decide ((ByteArray.size ⟨(c :: r).toArray⟩ : Int) < 1) = false := decide_eq_false (by rw [hl1]; omega)
      have f2 : decide ((ByteArray.size ⟨(c :: r).toArray⟩ : Int) > 10) = decide (r.length + 1 > 10) := by rw [hl1, Bool.eq_iff_iff]; simp; omega
      have f3 : decide ((ByteArray.size ⟨(c :: r).toArray⟩ : Int) > 1) = decide (r.length + 1 > 1) := by rw [hl1, Bool.eq_iff_iff]; simp; omega
      have e48 : ((c.toNat : Int) == 48) = decide (c = 48) := u8_eq c 48
      repeat (first | refine js rfl ?_ | (refine jdraw ?_ ?_; · kernel_rfl) | refine jbu rfl rfl rfl rfl ?_)
      rw [f2]
      unfold rnumT
      simp only
      cases hb1 : decide (r.length + 1 > 10) with
      | true =>
        repeat (first | refine js rfl ?_ | (refine jdraw ?_ ?_; · kernel_rfl) | refine jbu rfl rfl rfl rfl ?_)
        exact jr rfl rfl rfl rfl
      | false =>
        repeat (first | refine js rfl ?_ | (refine jdraw ?_ ?_; · kernel_rfl) | refine jbu rfl rfl rfl rfl ?_ | refine jo rfl rfl (index_str rfl rfl rfl rfl (by decide) (c := c) rfl) rfl rfl ?_)
        rw [e48]
        cases h48 : decide (c = 48) with
        | false =>
          repeat (first | refine js rfl ?_ | (refine jdraw ?_ ?_; · kernel_rfl) | refine jbu rfl rfl rfl rfl ?_)
          simp only [Bool.false_or, Bool.or_false, Bool.and_false, Bool.false_and, cond_false]
          have hlen : (c :: r).length ≤ 10 := by have := of_decide_eq_false hb1; simp; omega
          have hln : r.length + 1 = (c :: r).length := rfl
          rw [hln]
          clear f1 f2 f3 e48 h48 hb1 hl1 hln
          generalize c :: r = s at *
          refine jloopI (fun i : Nat => i ≤ s.length ∧ ∀ q, q < i → isDig (s.getD q 48) = true) [0, 4, 5, 6] (fun i => [sv s, .v (.bool false), .v (.int .i64 (dsum s i)), .v (.int .i64 (i : Int))]) (fun _ => []) (fun i => s.length - i) 0 ⟨Nat.zero_le _, fun q h => absurd h (by omega)⟩ rfl rfl (fun i hi => ?_)
          obtain ⟨hi, hok⟩ := hi
          have hbd := dsum_le s i hok
          have hp : 10 ^ i ≤ 10 ^ 10 := Nat.pow_le_pow_right (by omega) (by omega)
          have hl2 : ByteArray.size ⟨s.toArray⟩ = s.length := rfl
          repeat (first | refine js rfl ?_ | (refine jdraw ?_ ?_; · kernel_rfl) | refine jbu rfl rfl rfl rfl ?_)
          refine jc rfl rfl rfl (fun h => ?_) (fun h => ?_)
          · have h := of_decide_eq_true h
            have hi2 : i < s.length := by rw [hl2] at h; omega
            obtain ⟨d, hd⟩ : ∃ d, s[i]? = some d := ⟨_, List.getElem?_eq_getElem hi2⟩
            have hdd : s.getD i 48 = d := by simp [List.getD, hd]
            have hdm : d ∈ s := List.mem_of_getElem? hd
            have hat := str_at hd
            have hnx := idx_next hi2 (by omega)
            have hsum := dsum_succ hd
            have hgo : isDig d = true → ∀ q, q < i + 1 → isDig (s.getD q 48) = true := fun h0 q hq => by
              by_cases hqi : q = i
              · subst hqi; rw [hdd]; exact h0
              · exact hok q (by omega)
            have hno : isDig d = false → s.all isDig = false := fun h0 => by
              rw [List.all_eq_false]; exact ⟨d, hdm, by rw [h0]; simp⟩
            have hd255 := d.toNat_lt
            have hw : 48 ≤ (d.toNat : Int) → IntKind.i64.wrap (IntKind.i64.wrap (10 * dsum s i) + IntKind.i64.wrap (IntKind.u8.wrap ((d.toNat : Int) - 48))) = dsum s (i + 1) := fun h48 => by
              have e1 : IntKind.u8.wrap ((d.toNat : Int) - 48) = (d.toNat : Int) - 48 := by
                simp only [IntKind.wrap, IntKind.bits, IntKind.signed]
                simp
                omega
              rw [e1, wrap_id (n := (d.toNat : Int) - 48) (by omega) (by omega), wrap_id (n := 10 * dsum s i) (by omega) (by omega), hsum, wrap_id (by omega) (by omega)]
            clear h hok
            repeat' (first | refine js rfl ?_ | (refine jdraw ?_ ?_; · kernel_rfl) | refine jbu rfl rfl rfl rfl ?_ | refine jo rfl rfl (index_str rfl rfl rfl rfl (Int.natCast_nonneg i) hat) rfl rfl ?_ | refine jo rfl rfl (index_at rfl rfl rfl rfl rfl rfl rfl rfl (by omega) (by omega)) rfl rfl ?_ | (refine jc rfl rfl rfl (fun h => ?_) (fun h => ?_) <;> (try simp only [decide_eq_true_eq, decide_eq_false_iff_not, beq_iff_eq, beq_eq_false_iff_ne, bne_iff_ne, bne_eq_false_iff_eq, ne_eq] at h) <;> (try (exfalso; omega))) | (refine jg rfl rfl rfl rfl (fun h => ?_) (fun h => ?_) <;> (fail_if_success (exact absurd h (by decide))) <;> (try simp only [decide_eq_true_eq, decide_eq_false_iff_not, beq_iff_eq, beq_eq_false_iff_ne, bne_iff_ne, bne_eq_false_iff_eq, ne_eq] at h) <;> (try (exfalso; omega))))
            all_goals first
              | (refine jnextI (i + 1) ⟨by omega, hgo (by unfold isDig; simp; omega)⟩ ?_ rfl (by omega)
                 show some _ = some _
                 rw [hnx, hw (by omega)])
              | (rw [hno (by unfold isDig; simp; omega)]
                 exact jr rfl rfl rfl rfl)
          · have h := of_decide_eq_false h
            have hi2 : i = s.length := by rw [hl2] at h; omega
            subst hi2
            have hall : s.all isDig = true := by
              rw [List.all_eq_true]
              intro x hx
              obtain ⟨q, hq, rfl⟩ := List.getElem_of_mem hx
              have := hok q (by omega)
              simpa [List.getD, hq] using this
            rw [hall]
            simp only [cond_true]
            have hneg : IntKind.i64.wrap (0 - dsum s s.length) = 0 - dsum s s.length := wrap_id (by omega) (by omega)
            repeat (first | refine js rfl ?_ | (refine jdraw ?_ ?_; · kernel_rfl) | refine jbu rfl rfl rfl rfl ?_)
            cases hgt : decide (dsum s s.length > 1000000000) with
            | true =>
              repeat (first | refine js rfl ?_ | (refine jdraw ?_ ?_; · kernel_rfl) | refine jbu rfl rfl rfl rfl ?_)
              exact jr rfl rfl rfl rfl
            | false =>
              repeat (first | refine js rfl ?_ | (refine jdraw ?_ ?_; · kernel_rfl) | refine jbu rfl rfl rfl rfl ?_)
              try rw [hneg]
              exact jr rfl rfl rfl rfl
        | true =>
          repeat (first | refine js rfl ?_ | (refine jdraw ?_ ?_; · kernel_rfl) | refine jbu rfl rfl rfl rfl ?_)
          rw [f3]
          cases h1 : decide (r.length + 1 > 1) with
          | true =>
            repeat (first | refine js rfl ?_ | (refine jdraw ?_ ?_; · kernel_rfl) | refine jbu rfl rfl rfl rfl ?_)
            exact jr rfl rfl rfl rfl
          | false =>
            repeat (first | refine js rfl ?_ | (refine jdraw ?_ ?_; · kernel_rfl) | refine jbu rfl rfl rfl rfl ?_)
            simp only [Bool.false_or, Bool.or_false, Bool.and_false, Bool.false_and, cond_false]
            have hlen : (c :: r).length ≤ 10 := by have := of_decide_eq_false hb1; simp; omega
            have hln : r.length + 1 = (c :: r).length := rfl
            rw [hln]
            clear h1 f1 f2 f3 e48 h48 hb1 hl1 hln
            generalize c :: r = s at *
            refine jloopI (fun i : Nat => i ≤ s.length ∧ ∀ q, q < i → isDig (s.getD q 48) = true) [0, 4, 5, 6] (fun i => [sv s, .v (.bool false), .v (.int .i64 (dsum s i)), .v (.int .i64 (i : Int))]) (fun _ => []) (fun i => s.length - i) 0 ⟨Nat.zero_le _, fun q h => absurd h (by omega)⟩ rfl rfl (fun i hi => ?_)
            obtain ⟨hi, hok⟩ := hi
            have hbd := dsum_le s i hok
            have hp : 10 ^ i ≤ 10 ^ 10 := Nat.pow_le_pow_right (by omega) (by omega)
            have hl2 : ByteArray.size ⟨s.toArray⟩ = s.length := rfl
            repeat (first | refine js rfl ?_ | (refine jdraw ?_ ?_; · kernel_rfl) | refine jbu rfl rfl rfl rfl ?_)
            refine jc rfl rfl rfl (fun h => ?_) (fun h => ?_)
            · have h := of_decide_eq_true h
              have hi2 : i < s.length := by rw [hl2] at h; omega
              obtain ⟨d, hd⟩ : ∃ d, s[i]? = some d := ⟨_, List.getElem?_eq_getElem hi2⟩
              have hdd : s.getD i 48 = d := by simp [List.getD, hd]
              have hdm : d ∈ s := List.mem_of_getElem? hd
              have hat := str_at hd
              have hnx := idx_next hi2 (by omega)
              have hsum := dsum_succ hd
              have hgo : isDig d = true → ∀ q, q < i + 1 → isDig (s.getD q 48) = true := fun h0 q hq => by
                by_cases hqi : q = i
                · subst hqi; rw [hdd]; exact h0
                · exact hok q (by omega)
              have hno : isDig d = false → s.all isDig = false := fun h0 => by
                rw [List.all_eq_false]; exact ⟨d, hdm, by rw [h0]; simp⟩
              have hd255 := d.toNat_lt
              have hw : 48 ≤ (d.toNat : Int) → IntKind.i64.wrap (IntKind.i64.wrap (10 * dsum s i) + IntKind.i64.wrap (IntKind.u8.wrap ((d.toNat : Int) - 48))) = dsum s (i + 1) := fun h48 => by
                have e1 : IntKind.u8.wrap ((d.toNat : Int) - 48) = (d.toNat : Int) - 48 := by
                  simp only [IntKind.wrap, IntKind.bits, IntKind.signed]
                  simp
                  omega
                rw [e1, wrap_id (n := (d.toNat : Int) - 48) (by omega) (by omega), wrap_id (n := 10 * dsum s i) (by omega) (by omega), hsum, wrap_id (by omega) (by omega)]
              clear h hok
              repeat' (first | refine js rfl ?_ | (refine jdraw ?_ ?_; · kernel_rfl) | refine jbu rfl rfl rfl rfl ?_ | refine jo rfl rfl (index_str rfl rfl rfl rfl (Int.natCast_nonneg i) hat) rfl rfl ?_ | refine jo rfl rfl (index_at rfl rfl rfl rfl rfl rfl rfl rfl (by omega) (by omega)) rfl rfl ?_ | (refine jc rfl rfl rfl (fun h => ?_) (fun h => ?_) <;> (try simp only [decide_eq_true_eq, decide_eq_false_iff_not, beq_iff_eq, beq_eq_false_iff_ne, bne_iff_ne, bne_eq_false_iff_eq, ne_eq] at h) <;> (try (exfalso; omega))) | (refine jg rfl rfl rfl rfl (fun h => ?_) (fun h => ?_) <;> (fail_if_success (exact absurd h (by decide))) <;> (try simp only [decide_eq_true_eq, decide_eq_false_iff_not, beq_iff_eq, beq_eq_false_iff_ne, bne_iff_ne, bne_eq_false_iff_eq, ne_eq] at h) <;> (try (exfalso; omega))))
              all_goals first
                | (refine jnextI (i + 1) ⟨by omega, hgo (by unfold isDig; simp; omega)⟩ ?_ rfl (by omega)
                   show some _ = some _
                   rw [hnx, hw (by omega)])
                | (rw [hno (by unfold isDig; simp; omega)]
                   exact jr rfl rfl rfl rfl)
            · have h := of_decide_eq_false h
              have hi2 : i = s.length := by rw [hl2] at h; omega
              subst hi2
              have hall : s.all isDig = true := by
                rw [List.all_eq_true]
                intro x hx
                obtain ⟨q, hq, rfl⟩ := List.getElem_of_mem hx
                have := hok q (by omega)
                simpa [List.getD, hq] using this
              rw [hall]
              simp only [cond_true]
              have hneg : IntKind.i64.wrap (0 - dsum s s.length) = 0 - dsum s s.length := wrap_id (by omega) (by omega)
              repeat (first | refine js rfl ?_ | (refine jdraw ?_ ?_; · kernel_rfl) | refine jbu rfl rfl rfl rfl ?_)
              cases hgt : decide (dsum s s.length > 1000000000) with
              | true =>
                repeat (first | refine js rfl ?_ | (refine jdraw ?_ ?_; · kernel_rfl) | refine jbu rfl rfl rfl rfl ?_)
                exact jr rfl rfl rfl rfl
              | false =>
                repeat (first | refine js rfl ?_ | (refine jdraw ?_ ?_; · kernel_rfl) | refine jbu rfl rfl rfl rfl ?_)
                try rw [hneg]
                exact jr rfl rfl rfl rfl
end Go.AL
