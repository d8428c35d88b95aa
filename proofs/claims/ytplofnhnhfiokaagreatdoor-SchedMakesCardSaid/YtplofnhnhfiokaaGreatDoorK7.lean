/-
  Part 7 of the proof texts: the program logic over the model, then the contracts of the functions that the laws reach. No conditions.
-/
import Derived.Test.YtplofnhnhfiokaaGreatDoorK6
import Derived.Laws.RangeString
import Derived.Laws.RangeAny
set_option linter.unusedVariables false
set_option linter.unusedSimpArgs false
section
set_option maxRecDepth 100000
namespace Go.AL
open Go Go.Proofs
attribute [local irreducible] J
def isDig (c : UInt8) : Bool := !(decide ((c.toNat : Int) < 48) || decide ((c.toNat : Int) > 57))
def dsum (t : Bs) (i : Nat) : Int := (t.take i).foldl (fun n c => 10 * n + ((c.toNat : Int) - 48)) 0
theorem dsum_succ {t : Bs} {i : Nat} {d : UInt8} (h : t[i]? = some d) : dsum t (i + 1) = 10 * dsum t i + ((d.toNat : Int) - 48) := by
  obtain ⟨hi, hd⟩ := List.getElem?_eq_some_iff.1 h
  unfold dsum
  rw [List.take_succ_eq_append_getElem hi, List.foldl_append, hd]; rfl
theorem dsum_le (t : Bs) : ∀ i, (∀ q, q < i → isDig (t.getD q 48) = true) → 0 ≤ dsum t i ∧ dsum t i < (10 ^ i : Nat)
  | 0, _ => by simp [dsum]
  | i + 1, h => by
    obtain ⟨h1, h2⟩ := dsum_le t i fun q hq => h q (by omega)
    cases hd : t[i]? with
    | none =>
      have e : dsum t (i + 1) = dsum t i := by
        have := List.getElem?_eq_none_iff.1 hd
        unfold dsum
        rw [List.take_of_length_le (by omega), List.take_of_length_le (by omega)]
      rw [e]
      have : 10 ^ i ≤ 10 ^ (i + 1) := Nat.pow_le_pow_right (by omega) (by omega)
      omega
    | some d =>
      rw [dsum_succ hd]
      have hdg := h i (by omega)
      have hdd : t.getD i 48 = d := by simp [List.getD, hd]
      rw [hdd] at hdg
      unfold isDig at hdg
      simp at hdg
      have : 10 ^ (i + 1) = 10 * 10 ^ i := by rw [Nat.pow_succ]; omega
      omega
def rnumT (bl : Bool) (t : Bs) : Int × Bool :=
  match t with
  | [] => (0, false)
  | c :: r => cond (decide (r.length + 1 > 10) || (decide (c = 48) && (decide (r.length + 1 > 1) || bl))) (0, false)
      (cond ((c :: r).all isDig) (cond (decide (dsum (c :: r) (r.length + 1) > 1000000000)) (0, false) (cond bl (0 - dsum (c :: r) (r.length + 1)) (dsum (c :: r) (r.length + 1)), true)) (0, false))
def rnum (s : Bs) : Int × Bool :=
  match s with
  | [] => (0, false)
  | c :: r => cond (decide (c = 45)) (rnumT true r) (rnumT false (c :: r))
theorem rnum_ok (s : Bs) (hs : s.length ≤ 1000000) : ACalls Tryz.prog 140 [sv s] [] (one (.tup [iv (rnum s).1, bv (rnum s).2]) []) := by
  cases s with
  | nil =>
    unfold sv S
    refine jcalls Tryz.func140 rfl (by kernel_rfl) Tryz.ntmps140 rfl rfl (fun w0 β0 ext hβ => ?_)
    repeat (first | refine js rfl ?_ | (refine jdraw ?_ ?_; · kernel_rfl) | refine jbu rfl rfl rfl rfl ?_)
    exact jr rfl rfl rfl rfl
  | cons c r =>
    have hl : ByteArray.size ⟨(c :: r).toArray⟩ = r.length + 1 := rfl
    have e1 : decide ((ByteArray.size ⟨(c :: r).toArray⟩ : Int) > 0) = true := decide_eq_true (by rw [hl]; omega)
    have e45 : ((c.toNat : Int) == 45) = decide (c = 45) := u8_eq c 45
    unfold rnum
    refine jcalls Tryz.func140 rfl (by kernel_rfl) Tryz.ntmps140 rfl rfl (fun w0 β0 ext hβ => ?_)
    repeat (first | refine js rfl ?_ | (refine jdraw ?_ ?_; · kernel_rfl) | refine jbu rfl rfl rfl rfl ?_)
    rw [e1]
    repeat (first | refine js rfl ?_ | (refine jdraw ?_ ?_; · kernel_rfl) | refine jbu rfl rfl rfl rfl ?_ | refine jo rfl rfl (index_str rfl rfl rfl rfl (by decide) (c := c) rfl) rfl rfl ?_)
    rw [e45]
    simp only
    cases hb : decide (c = 45) with
    | true =>
      repeat (first | refine js rfl ?_ | refine jbu rfl rfl rfl rfl ?_)
      refine jo rfl rfl (cutL 1 rfl rfl rfl rfl rfl (by simp)) rfl rfl ?_
      refine js rfl ?_
      refine jre 0 (sv r) rfl rfl rfl ?_
      clear hl e1 e45 hb
      cases r with
      | nil =>
        unfold sv S
        repeat (first | refine js rfl ?_ | (refine jdraw ?_ ?_; · kernel_rfl) | refine jbu rfl rfl rfl rfl ?_)
        exact jr rfl rfl rfl rfl
      | cons c r =>
        have hl1 : ByteArray.size ⟨(c :: r).toArray⟩ = r.length + 1 := rfl
        have f1 : decide ((ByteArray.size ⟨(c :: r).toArray⟩ : Int) < 1) = false := decide_eq_false (by rw [hl1]; omega)
        have f2 : decide ((ByteArray.size ⟨(c :: r).toArray⟩ : Int) > 10) = decide (r.length + 1 > 10) := by rw [hl1, Bool.eq_iff_iff]; simp; omega
        have f3 : decide ((ByteArray.size ⟨(c :: r).toArray⟩ : Int) > 1) = decide (r.length + 1 > 1) := by rw [hl1, Bool.eq_iff_iff]; simp; omega
        have e48 : ((c.toNat : Int) == 48) = decide (c = 48) := u8_eq c 48
        repeat (first | refine js rfl ?_ | (refine jdraw ?_ ?_; · kernel_rfl) | refine jbu rfl rfl rfl rfl ?_)
        rw [f1]
        repeat (first | refine js rfl ?_ | (refine jdraw ?_ ?_; · kernel_rfl) | refine jbu rfl rfl rfl rfl ?_)
        rw [f2]
        unfold rnumT
        simp only
        cases hb1 : decide (r.length + 1 > 10) with
        | true =>
          repeat (first | refine js rfl ?_ | (refine jdraw ?_ ?_; · kernel_rfl) | refine jbu rfl rfl rfl rfl ?_)
          exact jr rfl rfl rfl rfl
        | false =>
          repeat (first | refine js rfl ?_ | (refine jdraw ?_ ?_; · kernel_rfl) | refine jbu rfl rfl rfl rfl ?_ | refine jo rfl rfl (index_str rfl rfl rfl rfl (by decide) (c := c) rfl) rfl rfl ?_)
          rw [e48]
          cases h48 : decide (c = 48) with
          | false =>
            repeat (first | refine js rfl ?_ | (refine jdraw ?_ ?_; · kernel_rfl) | refine jbu rfl rfl rfl rfl ?_)
            simp only [Bool.false_or, Bool.or_false, Bool.and_false, Bool.false_and, cond_false]
            have hlen : (c :: r).length ≤ 10 := by have := of_decide_eq_false hb1; simp; omega
            have hln : r.length + 1 = (c :: r).length := rfl
            rw [hln]
            clear f1 f2 f3 e48 h48 hb1 hl1 hln
            generalize c :: r = s at *
            refine jloopI (fun i : Nat => i ≤ s.length ∧ ∀ q, q < i → isDig (s.getD q 48) = true) [0, 4, 5, 6] (fun i => [sv s, .v (.bool true), .v (.int .i64 (dsum s i)), .v (.int .i64 (i : Int))]) (fun _ => []) (fun i => s.length - i) 0 ⟨Nat.zero_le _, fun q h => absurd h (by omega)⟩ rfl rfl (fun i hi => ?_)
            obtain ⟨hi, hok⟩ := hi
            have hbd := dsum_le s i hok
            have hp : 10 ^ i ≤ 10 ^ 10 := Nat.pow_le_pow_right (by omega) (by omega)
            have hl2 : ByteArray.size ⟨s.toArray⟩ = s.length := rfl
            repeat (first | refine js rfl ?_ | (refine jdraw ?_ ?_; · kernel_rfl) | refine jbu rfl rfl rfl rfl ?_)
            refine jc rfl rfl rfl (fun h => ?_) (fun h => ?_)
            · have h := of_decide_eq_true h
              have hi2 : i < s.length := by rw [hl2] at h; omega
              obtain ⟨d, hd⟩ : ∃ d, s[i]? = some d := ⟨_, List.getElem?_eq_getElem hi2⟩
              have hdd : s.getD i 48 = d := by simp [List.getD, hd]
              have hdm : d ∈ s := List.mem_of_getElem? hd
              have hat := str_at hd
              have hnx := idx_next hi2 (by omega)
              have hsum := dsum_succ hd
              have hgo : isDig d = true → ∀ q, q < i + 1 → isDig (s.getD q 48) = true := fun h0 q hq => by
                by_cases hqi : q = i
                · subst hqi; rw [hdd]; exact h0
                · exact hok q (by omega)
              have hno : isDig d = false → s.all isDig = false := fun h0 => by
                rw [List.all_eq_false]; exact ⟨d, hdm, by rw [h0]; simp⟩
              have hd255 := d.toNat_lt
              have hw : 48 ≤ (d.toNat : Int) → IntKind.i64.wrap (IntKind.i64.wrap (10 * dsum s i) + IntKind.i64.wrap (IntKind.u8.wrap ((d.toNat : Int) - 48))) = dsum s (i + 1) := fun h48 => by
                have e1 : IntKind.u8.wrap ((d.toNat : Int) - 48) = (d.toNat : Int) - 48 := by
                  simp only [IntKind.wrap, IntKind.bits, IntKind.signed]
                  simp
                  omega
                rw [e1, wrap_id (n := (d.toNat : Int) - 48) (by omega) (by omega), wrap_id (n := 10 * dsum s i) (by omega) (by omega), hsum, wrap_id (by omega) (by omega)]
              clear h hok
              repeat' (first | refine js rfl ?_ | (refine jdraw ?_ ?_; · kernel_rfl) | refine jbu rfl rfl rfl rfl ?_ | refine jo rfl rfl (index_str rfl rfl rfl rfl (Int.natCast_nonneg i) hat) rfl rfl ?_ | refine jo rfl rfl (index_at rfl rfl rfl rfl rfl rfl rfl rfl (by omega) (by omega)) rfl rfl ?_ | (refine jc rfl rfl rfl (fun h => ?_) (fun h => ?_) <;> (try simp only [decide_eq_true_eq, decide_eq_false_iff_not, beq_iff_eq, beq_eq_false_iff_ne, bne_iff_ne, bne_eq_false_iff_eq, ne_eq] at h) <;> (try (exfalso; omega))) | (refine jg rfl rfl rfl rfl (fun h => ?_) (fun h => ?_) <;> (fail_if_success (exact absurd h (by decide))) <;> (try simp only [decide_eq_true_eq, decide_eq_false_iff_not, beq_iff_eq, beq_eq_false_iff_ne, bne_iff_ne, bne_eq_false_iff_eq, ne_eq] at h) <;> (try (exfalso; omega))))
              all_goals first
                | (refine jnextI (i + 1) ⟨by omega, hgo (by unfold isDig; simp; omega)⟩ ?_ rfl (by omega)
                   show some _ = some _
                   rw [hnx, hw (by omega)])
                | (rw [hno (by unfold isDig; simp; omega)]
                   exact jr rfl rfl rfl rfl)
            · have h := of_decide_eq_false h
              have hi2 : i = s.length := by rw [hl2] at h; omega
              subst hi2
              have hall : s.all isDig = true := by
                rw [List.all_eq_true]
                intro x hx
                obtain ⟨q, hq, rfl⟩ := List.getElem_of_mem hx
                have := hok q (by omega)
                simpa [List.getD, hq] using this
              rw [hall]
              simp only [cond_true]
              have hneg : IntKind.i64.wrap (0 - dsum s s.length) = 0 - dsum s s.length := wrap_id (by omega) (by omega)
              repeat (first | refine js rfl ?_ | (refine jdraw ?_ ?_; · kernel_rfl) | refine jbu rfl rfl rfl rfl ?_)
              cases hgt : decide (dsum s s.length > 1000000000) with
              | true =>
                repeat (first | refine js rfl ?_ | (refine jdraw ?_ ?_; · kernel_rfl) | refine jbu rfl rfl rfl rfl ?_)
                exact jr rfl rfl rfl rfl
              | false =>
                repeat (first | refine js rfl ?_ | (refine jdraw ?_ ?_; · kernel_rfl) | refine jbu rfl rfl rfl rfl ?_)
                try rw [hneg]
                exact jr rfl rfl rfl rfl
          | true =>
            repeat (first | refine js rfl ?_ | (refine jdraw ?_ ?_; · kernel_rfl) | refine jbu rfl rfl rfl rfl ?_)
            rw [f3]
            cases h1 : decide (r.length + 1 > 1) with
            | true =>
              repeat (first | refine js rfl ?_ | (refine jdraw ?_ ?_; · kernel_rfl) | refine jbu rfl rfl rfl rfl ?_)
              exact jr rfl rfl rfl rfl
            | false =>
              repeat (first | refine js rfl ?_ | (refine jdraw ?_ ?_; · kernel_rfl) | refine jbu rfl rfl rfl rfl ?_)
              exact jr rfl rfl rfl rfl
    | false =>
      clear e1 e45 hl hb
      have hl1 : ByteArray.size ⟨(c :: r).toArray⟩ = r.length + 1 := rfl
      have f1 : decide ((ByteArray.size ⟨(c :: r).toArray⟩ : Int) < 1) = false := decide_eq_false (by rw [hl1]; omega)
      have f2 : decide ((ByteArray.size ⟨(c :: r).toArray⟩ : Int) > 10) = decide (r.length + 1 > 10) := by rw [hl1, Bool.eq_iff_iff]; simp; omega
      have f3 : decide ((ByteArray.size ⟨(c :: r).toArray⟩ : Int) > 1) = decide (r.length + 1 > 1) := by rw [hl1, Bool.eq_iff_iff]; simp; omega
      have e48 : ((c.toNat : Int) == 48) = decide (c = 48) := u8_eq c 48
      repeat (first | refine js rfl ?_ | (refine jdraw ?_ ?_; · kernel_rfl) | refine jbu rfl rfl rfl rfl ?_)
      rw [f2]
      unfold rnumT
      simp only
      cases hb1 : decide (r.length + 1 > 10) with
      | true =>
        repeat (first | refine js rfl ?_ | (refine jdraw ?_ ?_; · kernel_rfl) | refine jbu rfl rfl rfl rfl ?_)
        exact jr rfl rfl rfl rfl
      | false =>
        repeat (first | refine js rfl ?_ | (refine jdraw ?_ ?_; · kernel_rfl) | refine jbu rfl rfl rfl rfl ?_ | refine jo rfl rfl (index_str rfl rfl rfl rfl (by decide) (c := c) rfl) rfl rfl ?_)
        rw [e48]
        cases h48 : decide (c = 48) with
        | false =>
          repeat (first | refine js rfl ?_ | (refine jdraw ?_ ?_; · kernel_rfl) | refine jbu rfl rfl rfl rfl ?_)
          simp only [Bool.false_or, Bool.or_false, Bool.and_false, Bool.false_and, cond_false]
          have hlen : (c :: r).length ≤ 10 := by have := of_decide_eq_false hb1; simp; omega
          have hln : r.length + 1 = (c :: r).length := rfl
          rw [hln]
          clear f1 f2 f3 e48 h48 hb1 hl1 hln
          generalize c :: r = s at *
          refine jloopI (fun i : Nat => i ≤ s.length ∧ ∀ q, q < i → isDig (s.getD q 48) = true) [0, 4, 5, 6] (fun i => [sv s, .v (.bool false), .v (.int .i64 (dsum s i)), .v (.int .i64 (i : Int))]) (fun _ => []) (fun i => s.length - i) 0 ⟨Nat.zero_le _, fun q h => absurd h (by omega)⟩ rfl rfl (fun i hi => ?_)
          obtain ⟨hi, hok⟩ := hi
          have hbd := dsum_le s i hok
          have hp : 10 ^ i ≤ 10 ^ 10 := Nat.pow_le_pow_right (by omega) (by omega)
          have hl2 : ByteArray.size ⟨s.toArray⟩ = s.length := rfl
          repeat (first | refine js rfl ?_ | (refine jdraw ?_ ?_; · kernel_rfl) | refine jbu rfl rfl rfl rfl ?_)
          refine jc rfl rfl rfl (fun h => ?_) (fun h => ?_)
          · have h := of_decide_eq_true h
            have hi2 : i < s.length := by rw [hl2] at h; omega
            obtain ⟨d, hd⟩ : ∃ d, s[i]? = some d := ⟨_, List.getElem?_eq_getElem hi2⟩
            have hdd : s.getD i 48 = d := by simp [List.getD, hd]
            have hdm : d ∈ s := List.mem_of_getElem? hd
            have hat := str_at hd
            have hnx := idx_next hi2 (by omega)
            have hsum := dsum_succ hd
            have hgo : isDig d = true → ∀ q, q < i + 1 → isDig (s.getD q 48) = true := fun h0 q hq => by
              by_cases hqi : q = i
              · subst hqi; rw [hdd]; exact h0
              · exact hok q (by omega)
            have hno : isDig d = false → s.all isDig = false := fun h0 => by
              rw [List.all_eq_false]; exact ⟨d, hdm, by rw [h0]; simp⟩
            have hd255 := d.toNat_lt
            have hw : 48 ≤ (d.toNat : Int) → IntKind.i64.wrap (IntKind.i64.wrap (10 * dsum s i) + IntKind.i64.wrap (IntKind.u8.wrap ((d.toNat : Int) - 48))) = dsum s (i + 1) := fun h48 => by
              have e1 : IntKind.u8.wrap ((d.toNat : Int) - 48) = (d.toNat : Int) - 48 := by
                simp only [IntKind.wrap, IntKind.bits, IntKind.signed]
                simp
                omega
              rw [e1, wrap_id (n := (d.toNat : Int) - 48) (by omega) (by omega), wrap_id (n := 10 * dsum s i) (by omega) (by omega), hsum, wrap_id (by omega) (by omega)]
            clear h hok
            repeat' (first | refine js rfl ?_ | (refine jdraw ?_ ?_; · kernel_rfl) | refine jbu rfl rfl rfl rfl ?_ | refine jo rfl rfl (index_str rfl rfl rfl rfl (Int.natCast_nonneg i) hat) rfl rfl ?_ | refine jo rfl rfl (index_at rfl rfl rfl rfl rfl rfl rfl rfl (by omega) (by omega)) rfl rfl ?_ | (refine jc rfl rfl rfl (fun h => ?_) (fun h => ?_) <;> (try simp only [decide_eq_true_eq, decide_eq_false_iff_not, beq_iff_eq, beq_eq_false_iff_ne, bne_iff_ne, bne_eq_false_iff_eq, ne_eq] at h) <;> (try (exfalso; omega))) | (refine jg rfl rfl rfl rfl (fun h => ?_) (fun h => ?_) <;> (fail_if_success (exact absurd h (by decide))) <;> (try simp only [decide_eq_true_eq, decide_eq_false_iff_not, beq_iff_eq, beq_eq_false_iff_ne, bne_iff_ne, bne_eq_false_iff_eq, ne_eq] at h) <;> (try (exfalso; omega))))
            all_goals first
              | (refine jnextI (i + 1) ⟨by omega, hgo (by unfold isDig; simp; omega)⟩ ?_ rfl (by omega)
                 show some _ = some _
                 rw [hnx, hw (by omega)])
              | (rw [hno (by unfold isDig; simp; omega)]
                 exact jr rfl rfl rfl rfl)
          · have h := of_decide_eq_false h
            have hi2 : i = s.length := by rw [hl2] at h; omega
            subst hi2
            have hall : s.all isDig = true := by
              rw [List.all_eq_true]
              intro x hx
              obtain ⟨q, hq, rfl⟩ := List.getElem_of_mem hx
              have := hok q (by omega)
              simpa [List.getD, hq] using this
            rw [hall]
            simp only [cond_true]
            have hneg : IntKind.i64.wrap (0 - dsum s s.length) = 0 - dsum s s.length := wrap_id (by omega) (by omega)
            repeat (first | refine js rfl ?_ | (refine jdraw ?_ ?_; · kernel_rfl) | refine jbu rfl rfl rfl rfl ?_)
            cases hgt : decide (dsum s s.length > 1000000000) with
            | true =>
              repeat (first | refine js rfl ?_ | (refine jdraw ?_ ?_; · kernel_rfl) | refine jbu rfl rfl rfl rfl ?_)
              exact jr rfl rfl rfl rfl
            | false =>
              repeat (first | refine js rfl ?_ | (refine jdraw ?_ ?_; · kernel_rfl) | refine jbu rfl rfl rfl rfl ?_)
              try rw [hneg]
              exact jr rfl rfl rfl rfl
        | true =>
          repeat (first | refine js rfl ?_ | (refine jdraw ?_ ?_; · kernel_rfl) | refine jbu rfl rfl rfl rfl ?_)
          rw [f3]
          cases h1 : decide (r.length + 1 > 1) with
          | true =>
            repeat (first | refine js rfl ?_ | (refine jdraw ?_ ?_; · kernel_rfl) | refine jbu rfl rfl rfl rfl ?_)
            exact jr rfl rfl rfl rfl
          | false =>
            repeat (first | refine js rfl ?_ | (refine jdraw ?_ ?_; · kernel_rfl) | refine jbu rfl rfl rfl rfl ?_)
            simp only [Bool.false_or, Bool.or_false, Bool.and_false, Bool.false_and, cond_false]
            have hlen : (c :: r).length ≤ 10 := by have := of_decide_eq_false hb1; simp; omega
            have hln : r.length + 1 = (c :: r).length := rfl
            rw [hln]
            clear h1 f1 f2 f3 e48 h48 hb1 hl1 hln
            generalize c :: r = s at *
            refine jloopI (fun i : Nat => i ≤ s.length ∧ ∀ q, q < i → isDig (s.getD q 48) = true) [0, 4, 5, 6] (fun i => [sv s, .v (.bool false), .v (.int .i64 (dsum s i)), .v (.int .i64 (i : Int))]) (fun _ => []) (fun i => s.length - i) 0 ⟨Nat.zero_le _, fun q h => absurd h (by omega)⟩ rfl rfl (fun i hi => ?_)
            obtain ⟨hi, hok⟩ := hi
            have hbd := dsum_le s i hok
            have hp : 10 ^ i ≤ 10 ^ 10 := Nat.pow_le_pow_right (by omega) (by omega)
            have hl2 : ByteArray.size ⟨s.toArray⟩ = s.length := rfl
            repeat (first | refine js rfl ?_ | (refine jdraw ?_ ?_; · kernel_rfl) | refine jbu rfl rfl rfl rfl ?_)
            refine jc rfl rfl rfl (fun h => ?_) (fun h => ?_)
            · have h := of_decide_eq_true h
              have hi2 : i < s.length := by rw [hl2] at h; omega
              obtain ⟨d, hd⟩ : ∃ d, s[i]? = some d := ⟨_, List.getElem?_eq_getElem hi2⟩
              have hdd : s.getD i 48 = d := by simp [List.getD, hd]
              have hdm : d ∈ s := List.mem_of_getElem? hd
              have hat := str_at hd
              have hnx := idx_next hi2 (by omega)
              have hsum := dsum_succ hd
              have hgo : isDig d = true → ∀ q, q < i + 1 → isDig (s.getD q 48) = true := fun h0 q hq => by
                by_cases hqi : q = i
                · subst hqi; rw [hdd]; exact h0
                · exact hok q (by omega)
              have hno : isDig d = false → s.all isDig = false := fun h0 => by
                rw [List.all_eq_false]; exact ⟨d, hdm, by rw [h0]; simp⟩
              have hd255 := d.toNat_lt
              have hw : 48 ≤ (d.toNat : Int) → IntKind.i64.wrap (IntKind.i64.wrap (10 * dsum s i) + IntKind.i64.wrap (IntKind.u8.wrap ((d.toNat : Int) - 48))) = dsum s (i + 1) := fun h48 => by
                have e1 : IntKind.u8.wrap ((d.toNat : Int) - 48) = (d.toNat : Int) - 48 := by
                  simp only [IntKind.wrap, IntKind.bits, IntKind.signed]
                  simp
                  omega
                rw [e1, wrap_id (n := (d.toNat : Int) - 48) (by omega) (by omega), wrap_id (n := 10 * dsum s i) (by omega) (by omega), hsum, wrap_id (by omega) (by omega)]
              clear h hok
              repeat' (first | refine js rfl ?_ | (refine jdraw ?_ ?_; · kernel_rfl) | refine jbu rfl rfl rfl rfl ?_ | refine jo rfl rfl (index_str rfl rfl rfl rfl (Int.natCast_nonneg i) hat) rfl rfl ?_ | refine jo rfl rfl (index_at rfl rfl rfl rfl rfl rfl rfl rfl (by omega) (by omega)) rfl rfl ?_ | (refine jc rfl rfl rfl (fun h => ?_) (fun h => ?_) <;> (try simp only [decide_eq_true_eq, decide_eq_false_iff_not, beq_iff_eq, beq_eq_false_iff_ne, bne_iff_ne, bne_eq_false_iff_eq, ne_eq] at h) <;> (try (exfalso; omega))) | (refine jg rfl rfl rfl rfl (fun h => ?_) (fun h => ?_) <;> (fail_if_success (exact absurd h (by decide))) <;> (try simp only [decide_eq_true_eq, decide_eq_false_iff_not, beq_iff_eq, beq_eq_false_iff_ne, bne_iff_ne, bne_eq_false_iff_eq, ne_eq] at h) <;> (try (exfalso; omega))))
              all_goals first
                | (refine jnextI (i + 1) ⟨by omega, hgo (by unfold isDig; simp; omega)⟩ ?_ rfl (by omega)
                   show some _ = some _
                   rw [hnx, hw (by omega)])
                | (rw [hno (by unfold isDig; simp; omega)]
                   exact jr rfl rfl rfl rfl)
            · have h := of_decide_eq_false h
              have hi2 : i = s.length := by rw [hl2] at h; omega
              subst hi2
              have hall : s.all isDig = true := by
                rw [List.all_eq_true]
                intro x hx
                obtain ⟨q, hq, rfl⟩ := List.getElem_of_mem hx
                have := hok q (by omega)
                simpa [List.getD, hq] using this
              rw [hall]
              simp only [cond_true]
              have hneg : IntKind.i64.wrap (0 - dsum s s.length) = 0 - dsum s s.length := wrap_id (by omega) (by omega)
              repeat (first | refine js rfl ?_ | (refine jdraw ?_ ?_; · kernel_rfl) | refine jbu rfl rfl rfl rfl ?_)
              cases hgt : decide (dsum s s.length > 1000000000) with
              | true =>
                repeat (first | refine js rfl ?_ | (refine jdraw ?_ ?_; · kernel_rfl) | refine jbu rfl rfl rfl rfl ?_)
                exact jr rfl rfl rfl rfl
              | false =>
                repeat (first | refine js rfl ?_ | (refine jdraw ?_ ?_; · kernel_rfl) | refine jbu rfl rfl rfl rfl ?_)
                try rw [hneg]
                exact jr rfl rfl rfl rfl
end Go.AL
end
section
set_option maxRecDepth 100000
namespace Go.AL
open Go Go.Proofs
attribute [local irreducible] J
theorem cat_str {P : Program} {F : Fr} {H : List AObj} {dst : Option Tmp} {t yt : TypeId} {x y : Operand} {type : TypeId} {pos : String} {after : Array Edge} {guard : Option (Nat × Bool)} {a b : Bs} (hx : ev F x = some (sv a)) (hy : ev F y = some (sv b)) (hl : a.length + b.length ≤ 1000000000) :
    DSem P .p ⟨dst, .binOp .add t x y yt, type, pos, after, guard⟩ F H (sv (a ++ b)) H := by
  refine ⟨rfl, fun H' => Says.sem (says_bin hx hy (fun c u u' w r1 r2 => ?_) ⟨_, rfl⟩) H'⟩
  cases (show u = S a from r1); cases (show u' = S b from r2)
  have hsz : ¬ (((ByteArray.size ⟨a.toArray⟩ + ByteArray.size ⟨b.toArray⟩ : Nat) : Int) > IntKind.i64.max) := by
    rw [show ByteArray.size ⟨a.toArray⟩ = a.length from rfl, show ByteArray.size ⟨b.toArray⟩ = b.length from rfl, show IntKind.i64.max = 9223372036854775807 from rfl]
    omega
  have hc : ((⟨a.toArray⟩ : ByteArray) ++ ⟨b.toArray⟩) = ⟨(a ++ b).toArray⟩ := by
    apply ByteArray.ext
    simp
  unfold S
  simp only [Sem.run_bind, run_eqGuard_string, Result.andThen_ok]
  simp only [binOp, Op.stringOp, if_neg hsz, hc]
  rfl
def nl (ls : List Bs) (i : Nat) : Int := (((ls.take i).filter fun l => !rlab l).length : Nat)
theorem nl_succ {ls : List Bs} {i : Nat} (h : i < ls.length) : nl ls (i + 1) = cond (rlab ls[i]) (nl ls i) (nl ls i + 1) := by
  unfold nl
  rw [List.take_succ_eq_append_getElem h, List.filter_append, List.length_append]
  cases hr : rlab ls[i] <;> simp [hr]
theorem nl_le (ls : List Bs) (i : Nat) : 0 ≤ nl ls i ∧ nl ls i ≤ i := by
  unfold nl
  have := List.length_filter_le (fun l => !rlab l) (ls.take i)
  rw [List.length_take] at this
  omega
def rtarget (ls : List Bs) (s : Bs) : Int × Bool := match ls.findIdx? (fun l => decide (l = s ++ [58])) with | some i => (nl ls i, true) | none => (0, false)
theorem rtarget_ok (ls : List Bs) (s : Bs) (hs : s.length ≤ 1000000) (hls : ls.length ≤ 1000000) (hl : ∀ l ∈ ls, l.length ≤ 1000000) : ACalls Tryz.prog 95 [.sl (ls.map sv), sv s] [] (one (.tup [iv (rtarget ls s).1, bv (rtarget ls s).2]) []) := by
  refine jcalls Tryz.func95 rfl (by kernel_rfl) Tryz.ntmps95 rfl rfl (fun w0 β0 ext hβ => ?_)
  repeat (first | refine js rfl ?_ | (refine jdraw ?_ ?_; · kernel_rfl) | refine jbu rfl rfl rfl rfl ?_)
  refine jloopI (fun i : Nat => i ≤ ls.length ∧ ∀ q, q < i → ls.getD q [] ≠ s ++ [58]) [0, 1, 9, 6, 11, 10] (fun i => [.sl (ls.map sv), sv s, .sl (ls.map sv), .v (.int .i64 (nl ls i)), .v (.int .i64 (i : Int)), .v (.int .i64 ((ls.map sv).length : Int))]) (fun _ => []) (fun i => ls.length - i) 0 ⟨Nat.zero_le _, fun q h => absurd h (by omega)⟩ ?_ rfl (fun i hi => ?_)
  · rfl
  obtain ⟨hi, hok⟩ := hi
  have hnl := nl_le ls i
  repeat (first | refine js rfl ?_ | (refine jdraw ?_ ?_; · kernel_rfl) | refine jbu rfl rfl rfl rfl ?_)
  refine jc rfl rfl rfl (fun h => ?_) (fun h => ?_)
  · have h := of_decide_eq_true h
    rw [List.length_map] at h
    have hi2 : i < ls.length := by omega
    have hat := at_nat ls i hi2
    have hlab := rlab_ok (at' ls (i : Int)) (by rw [hat]; exact hl _ (List.getElem_mem hi2))
    have key := str_eq (at' ls (i : Int)) (s ++ [58])
    have hnx := idx_next hi2 (by omega)
    have hsu := nl_succ hi2
    have hgd : ls.getD i [] = ls[i] := by simp [List.getD, hi2]
    rw [← hat] at hsu hgd
    have hadd : IntKind.i64.wrap (nl ls i + 1) = nl ls i + 1 := wrap_id (by omega) (by omega)
    unfold sv bv at hlab
    have hcl : s.length + ([58] : Bs).length ≤ 1000000000 := by simp; omega
    repeat (first | refine js rfl ?_ | (refine jdraw ?_ ?_; · kernel_rfl) | refine jbu rfl rfl rfl rfl ?_ | refine jo rfl rfl (index_at rfl rfl rfl rfl rfl rfl rfl rfl (Int.natCast_nonneg i) h) rfl rfl ?_ | refine jo rfl rfl (cat_str rfl (b := [58]) rfl hcl) rfl rfl ?_)
    rw [key]
    cases hc : decide (at' ls (i : Int) = s ++ [58]) with
    | true =>
      repeat (first | refine js rfl ?_ | (refine jdraw ?_ ?_; · kernel_rfl) | refine jbu rfl rfl rfl rfl ?_)
      have : rtarget ls s = (nl ls i, true) := by
        unfold rtarget
        rw [List.findIdx?_eq_some_iff_getElem.2 ⟨hi2, by rw [← hat]; exact hc, fun j hj => by
          have := hok j hj
          have hj2 : j < ls.length := by omega
          simpa [List.getD, hj2] using this⟩]
      rw [this]
      exact jr rfl rfl rfl rfl
    | false =>
      have hc := of_decide_eq_false hc
      have hok' : ∀ q, q < i + 1 → ls.getD q [] ≠ s ++ [58] := fun q hq => by
        by_cases hqi : q = i
        · subst hqi; rw [hgd]; exact hc
        · exact hok q (by omega)
      cases hr : rlab (at' ls (i : Int)) with
      | true =>
        rw [hr] at hlab hsu
        repeat (first | refine js rfl ?_ | (refine jdraw ?_ ?_; · kernel_rfl) | refine jbu rfl rfl rfl rfl ?_ | refine jv hlab rfl rfl rfl rfl rfl ?_)
        refine jnextI (i + 1) ⟨by omega, hok'⟩ ?_ rfl (by omega)
        show some _ = some _
        rw [hnx, hsu]; rfl
      | false =>
        rw [hr] at hlab hsu
        repeat (first | refine js rfl ?_ | (refine jdraw ?_ ?_; · kernel_rfl) | refine jbu rfl rfl rfl rfl ?_ | refine jv hlab rfl rfl rfl rfl rfl ?_)
        refine jnextI (i + 1) ⟨by omega, hok'⟩ ?_ rfl (by omega)
        show some _ = some _
        rw [hnx, hsu, hadd]; rfl
  · have h := of_decide_eq_false h
    rw [List.length_map] at h
    have hi2 : i = ls.length := by omega
    repeat (first | refine js rfl ?_ | (refine jdraw ?_ ?_; · kernel_rfl) | refine jbu rfl rfl rfl rfl ?_)
    have : rtarget ls s = (0, false) := by
      unfold rtarget
      rw [List.findIdx?_eq_none_iff.2 fun l hm => by
        obtain ⟨q, hq, rfl⟩ := List.getElem_of_mem hm
        have := hok q (by omega)
        simpa [List.getD, hq] using this]
    rw [this]
    exact jr rfl rfl rfl rfl
end Go.AL
end
section
set_option maxRecDepth 100000
namespace Go.AL
open Go Go.Proofs
attribute [local irreducible] J
def ropN (s : Bs) : Int × Int := cond (rnum s).2 ((rnum s).1, 0) (0, 3)
def ropT (ls : List Bs) (s : Bs) : Int × Int := cond (rname s) (cond (rtarget ls s).2 ((rtarget ls s).1, 0) (0, 11)) (0, 3)
def rop (ls : List Bs) (k : UInt8) (s : Bs) : Int × Int := cond (decide (k = 114)) (rdR s) (cond (decide (k = 110)) (ropN s) (ropT ls s))
theorem rop_ok (ls : List Bs) (k : UInt8) (s : Bs) (hs : s.length ≤ 1000000) (hls : ls.length ≤ 1000000) (hl : ∀ l ∈ ls, l.length ≤ 1000000) :
    ACalls Tryz.prog 94 [.sl (ls.map sv), .v (.int .u8 k.toNat), sv s] [] (one (tup2 (rop ls k s)) []) := by
  have hn := rnum_ok s hs
  have hm := rname_ok s hs
  have ht := rtarget_ok ls s hs hls hl
  have e1 : ((k.toNat : Int) == 114) = decide (k = 114) := u8_eq k 114
  have e2 : ((k.toNat : Int) == 110) = decide (k = 110) := u8_eq k 110
  unfold rop
  cases h1 : decide (k = 114) with
  | true =>
    rw [h1] at e1
    simp only [cond_true]
    rcases s with _ | ⟨a, _ | ⟨b, _ | ⟨c, r⟩⟩⟩
    · refine jcalls Tryz.func94 rfl (by kernel_rfl) Tryz.ntmps94 rfl rfl (fun w0 β0 ext hβ => ?_)
      unfold sv S
      repeat (first | refine js rfl ?_ | (refine jdraw ?_ ?_; · kernel_rfl) | refine jbu rfl rfl rfl rfl ?_)
      rw [e1]
      repeat (first | refine js rfl ?_ | (refine jdraw ?_ ?_; · kernel_rfl) | refine jbu rfl rfl rfl rfl ?_)
      exact jr rfl rfl rfl rfl
    · refine jcalls Tryz.func94 rfl (by kernel_rfl) Tryz.ntmps94 rfl rfl (fun w0 β0 ext hβ => ?_)
      unfold sv S
      repeat (first | refine js rfl ?_ | (refine jdraw ?_ ?_; · kernel_rfl) | refine jbu rfl rfl rfl rfl ?_)
      rw [e1]
      repeat (first | refine js rfl ?_ | (refine jdraw ?_ ?_; · kernel_rfl) | refine jbu rfl rfl rfl rfl ?_)
      exact jr rfl rfl rfl rfl
    · have hb : (b.toNat : Int) ≤ 255 := by have := b.toNat_lt; omega
      have ha : ((a.toNat : Int) != 114) = !decide (a.toNat = 114) := by
        rw [Bool.eq_iff_iff]; simp; omega
      have h8 : inn b.toNat 48 55 = true → IntKind.i64.wrap (IntKind.u8.wrap ((b.toNat : Int) - 48)) = (b.toNat : Int) - 48 := fun hi => by
        unfold inn at hi
        simp only [Bool.and_eq_true, decide_eq_true_eq] at hi
        simp only [IntKind.wrap, IntKind.bits, IntKind.signed]
        simp
        omega
      have hin : inn b.toNat 48 55 = (!decide ((b.toNat : Int) < 48) && !decide ((b.toNat : Int) > 55)) := by
        unfold inn
        rw [Bool.eq_iff_iff]; simp
      unfold rdR
      simp only
      rw [hin] at h8 ⊢
      refine jcalls Tryz.func94 rfl (by kernel_rfl) Tryz.ntmps94 rfl rfl (fun w0 β0 ext hβ => ?_)
      unfold sv S
      repeat (first | refine js rfl ?_ | (refine jdraw ?_ ?_; · kernel_rfl) | refine jbu rfl rfl rfl rfl ?_)
      rw [e1]
      repeat (first | refine js rfl ?_ | (refine jdraw ?_ ?_; · kernel_rfl) | refine jbu rfl rfl rfl rfl ?_ | refine jo rfl rfl (index_str rfl rfl rfl rfl (by decide) (c := a) rfl) rfl rfl ?_ | refine jo rfl rfl (index_str rfl rfl rfl rfl (by decide) (c := b) rfl) rfl rfl ?_)
      rw [ha]
      generalize decide (a.toNat = 114) = b1 at *
      cases b1
      · repeat (first | refine js rfl ?_ | (refine jdraw ?_ ?_; · kernel_rfl) | refine jbu rfl rfl rfl rfl ?_)
        exact jr rfl rfl rfl rfl
      · repeat (first | refine js rfl ?_ | (refine jdraw ?_ ?_; · kernel_rfl) | refine jbu rfl rfl rfl rfl ?_ | refine jo rfl rfl (index_str rfl rfl rfl rfl (by decide) (c := a) rfl) rfl rfl ?_ | refine jo rfl rfl (index_str rfl rfl rfl rfl (by decide) (c := b) rfl) rfl rfl ?_)
        generalize hx : decide ((b.toNat : Int) < 48) = x at *
        cases x
        · repeat (first | refine js rfl ?_ | (refine jdraw ?_ ?_; · kernel_rfl) | refine jbu rfl rfl rfl rfl ?_ | refine jo rfl rfl (index_str rfl rfl rfl rfl (by decide) (c := a) rfl) rfl rfl ?_ | refine jo rfl rfl (index_str rfl rfl rfl rfl (by decide) (c := b) rfl) rfl rfl ?_)
          generalize hy : decide ((b.toNat : Int) > 55) = y at *
          cases y
          · repeat (first | refine js rfl ?_ | (refine jdraw ?_ ?_; · kernel_rfl) | refine jbu rfl rfl rfl rfl ?_ | refine jo rfl rfl (index_str rfl rfl rfl rfl (by decide) (c := b) rfl) rfl rfl ?_)
            rw [h8 rfl]
            exact jr rfl rfl rfl rfl
          · repeat (first | refine js rfl ?_ | (refine jdraw ?_ ?_; · kernel_rfl) | refine jbu rfl rfl rfl rfl ?_)
            exact jr rfl rfl rfl rfl
        · repeat (first | refine js rfl ?_ | (refine jdraw ?_ ?_; · kernel_rfl) | refine jbu rfl rfl rfl rfl ?_)
          exact jr rfl rfl rfl rfl
    · refine jcalls Tryz.func94 rfl (by kernel_rfl) Tryz.ntmps94 rfl rfl (fun w0 β0 ext hβ => ?_)
      unfold sv S
      repeat (first | refine js rfl ?_ | (refine jdraw ?_ ?_; · kernel_rfl) | refine jbu rfl rfl rfl rfl ?_)
      rw [e1]
      repeat (first | refine js rfl ?_ | (refine jdraw ?_ ?_; · kernel_rfl) | refine jbu rfl rfl rfl rfl ?_)
      exact jr rfl rfl rfl rfl
  | false =>
    rw [h1] at e1
    simp only [cond_false]
    cases h2 : decide (k = 110) with
    | true =>
      rw [h2] at e2
      simp only [cond_true]
      unfold ropN
      generalize rnum s = p at *
      obtain ⟨n, ok⟩ := p
      unfold sv iv bv at hn
      cases ok
      all_goals refine jcalls Tryz.func94 rfl (by kernel_rfl) Tryz.ntmps94 rfl rfl (fun w0 β0 ext hβ => ?_)
      all_goals (
        repeat (first | refine js rfl ?_ | (refine jdraw ?_ ?_; · kernel_rfl) | refine jbu rfl rfl rfl rfl ?_)
      )
      all_goals rw [e1]
      all_goals (
        repeat (first | refine js rfl ?_ | (refine jdraw ?_ ?_; · kernel_rfl) | refine jbu rfl rfl rfl rfl ?_)
      )
      all_goals rw [e2]
      all_goals (
        repeat (first | refine js rfl ?_ | (refine jdraw ?_ ?_; · kernel_rfl) | refine jbu rfl rfl rfl rfl ?_ | refine jv hn rfl rfl rfl rfl rfl ?_)
      )
      all_goals exact jr rfl rfl rfl rfl
    | false =>
      rw [h2] at e2
      simp only [cond_false]
      unfold ropT
      generalize rtarget ls s = p at *
      generalize rname s = nm at *
      obtain ⟨n, ok⟩ := p
      unfold sv iv bv at ht
      unfold sv bv at hm
      cases nm <;> cases ok
      all_goals refine jcalls Tryz.func94 rfl (by kernel_rfl) Tryz.ntmps94 rfl rfl (fun w0 β0 ext hβ => ?_)
      all_goals (
        repeat (first | refine js rfl ?_ | (refine jdraw ?_ ?_; · kernel_rfl) | refine jbu rfl rfl rfl rfl ?_)
      )
      all_goals rw [e1]
      all_goals (
        repeat (first | refine js rfl ?_ | (refine jdraw ?_ ?_; · kernel_rfl) | refine jbu rfl rfl rfl rfl ?_)
      )
      all_goals rw [e2]
      all_goals (
        repeat (first | refine js rfl ?_ | (refine jdraw ?_ ?_; · kernel_rfl) | refine jbu rfl rfl rfl rfl ?_ | refine jv hm rfl rfl rfl rfl rfl ?_ | refine jv ht rfl rfl rfl rfl rfl ?_)
      )
      all_goals exact jr rfl rfl rfl rfl
end Go.AL
end
section
set_option maxRecDepth 100000
namespace Go.AL
open Go Go.Proofs
attribute [local irreducible] J
def opN : List Bs := opsT.map (·.1)
def opK : List Bs := opsT.map (·.2)
theorem opName_ok (k : Nat) (hk : k < 27) : ACalls Tryz.prog 92 [iv k] [] (one (sv (at' opN (k : Int))) []) := by
  have e1 : decide ((k : Int) < 0) = false := decide_eq_false (by omega)
  have e2 : decide ((k : Int) ≥ ((27 : Nat) : Int)) = false := decide_eq_false (by omega)
  have h0 : (0 : Int) ≤ (k : Int) := by omega
  have h1 : (k : Int) < ((opN.length : Nat) : Int) := by show (k : Int) < ((27 : Nat) : Int); omega
  refine jcalls Tryz.func92 rfl (by kernel_rfl) Tryz.ntmps92 rfl rfl (fun w0 β0 ext hβ => ?_)
  repeat (first | refine js rfl ?_ | (refine jdraw ?_ ?_; · kernel_rfl) | refine jbu rfl rfl rfl rfl ?_)
  rw [e1]
  repeat (first | refine js rfl ?_ | (refine jdraw ?_ ?_; · kernel_rfl) | refine jbu rfl rfl rfl rfl ?_)
  refine jre 12 (.v (.bool false)) rfl rfl (congrArg (fun b => AVal.v (.bool b)) e2) ?_
  refine jre 3 (.slf (opN.map sv)) rfl rfl rfl ?_
  repeat (first | refine js rfl ?_ | (refine jdraw ?_ ?_; · kernel_rfl) | refine jbu rfl rfl rfl rfl ?_ | refine jo rfl rfl (index_at rfl rfl rfl rfl rfl rfl rfl rfl h0 h1) rfl rfl ?_)
  exact jr rfl rfl rfl rfl
theorem opKind_ok (k : Nat) (hk : k < 27) : ACalls Tryz.prog 93 [iv k] [] (one (sv (at' opK (k : Int))) []) := by
  have h0 : (0 : Int) ≤ (k : Int) := by omega
  have h1 : (k : Int) < ((opK.length : Nat) : Int) := by show (k : Int) < ((27 : Nat) : Int); omega
  refine jcalls Tryz.func93 rfl (by kernel_rfl) Tryz.ntmps93 rfl rfl (fun w0 β0 ext hβ => ?_)
  repeat (first | refine js rfl ?_ | (refine jdraw ?_ ?_; · kernel_rfl) | refine jbu rfl rfl rfl rfl ?_)
  refine jre 5 (.slf (opK.map sv)) rfl rfl rfl ?_
  repeat (first | refine js rfl ?_ | (refine jdraw ?_ ?_; · kernel_rfl) | refine jbu rfl rfl rfl rfl ?_ | refine jo rfl rfl (index_at rfl rfl rfl rfl rfl rfl rfl rfl h0 h1) rfl rfl ?_)
  exact jr rfl rfl rfl rfl
def rAll (ls : List Bs) : Bs → List Bs → List Int × Int
  | c :: cs, w :: ws => cond (decide ((rop ls c w).2 = 0)) (((rop ls c w).1 :: (rAll ls cs ws).1), (rAll ls cs ws).2) ([], (rop ls c w).2)
  | _, _ => ([], 0)
def rinstrK (ls : List Bs) (op : Int) (kd : Bs) (ws : List Bs) (n : Int) : Ins × Int :=
  cond (decide (ws.length = kd.length)) (cond (decide ((rAll ls kd ws).2 = 0)) (cond (decide (n ≥ 1000)) (default, 2) (⟨op, (rAll ls kd ws).1.getD 0 0, (rAll ls kd ws).1.getD 1 0, (rAll ls kd ws).1.getD 2 0⟩, 0)) (default, (rAll ls kd ws).2)) (default, 12)
def rinstr (ls : List Bs) (s : Bs) (n : Int) : Ins × Int :=
  match rsplit 32 s with
  | [] => (default, 10)
  | w :: ws => cond (decide (findOp w < 0)) (default, 10) (rinstrK ls (findOp w) (at' opK (findOp w)) ws n)
theorem rAll_ok (ls : List Bs) : ∀ (kd : Bs) (ws : List Bs), ws.length = kd.length → (∀ q, q < kd.length → (rop ls (kd.getD q 0) (ws.getD q [])).2 = 0) →
    (rAll ls kd ws).2 = 0 ∧ ∀ q, q < kd.length → (rAll ls kd ws).1.getD q 0 = (rop ls (kd.getD q 0) (ws.getD q [])).1
  | [], ws, _, _ => ⟨by simp [rAll], fun q h => absurd h (by simp)⟩
  | c :: kd, [], h, _ => by simp at h
  | c :: kd, w :: ws, h, ha => by
    have h0 := ha 0 (by simp)
    simp at h0
    obtain ⟨i1, i2⟩ := rAll_ok ls kd ws (by simpa using h) fun q hq => by simpa using ha (q + 1) (by simpa using hq)
    have e : rAll ls (c :: kd) (w :: ws) = ((rop ls c w).1 :: (rAll ls kd ws).1, (rAll ls kd ws).2) := by simp [rAll, h0]
    rw [e]
    refine ⟨i1, fun q hq => ?_⟩
    cases q with
    | zero => simp
    | succ q => simpa using i2 q (by simpa using hq)
theorem rAll_len (ls : List Bs) : ∀ (kd : Bs) (ws : List Bs), (rAll ls kd ws).1.length ≤ kd.length
  | [], ws => by simp [rAll]
  | c :: kd, [] => by simp [rAll]
  | c :: kd, w :: ws => by
    have := rAll_len ls kd ws
    simp only [rAll]
    cases decide ((rop ls c w).2 = 0) <;> simp <;> omega
theorem rAll_bad (ls : List Bs) : ∀ (kd : Bs) (ws : List Bs) (i : Nat), ws.length = kd.length → i < kd.length → (∀ q, q < i → (rop ls (kd.getD q 0) (ws.getD q [])).2 = 0) → (rop ls (kd.getD i 0) (ws.getD i [])).2 ≠ 0 →
    (rAll ls kd ws).2 = (rop ls (kd.getD i 0) (ws.getD i [])).2
  | [], ws, i, _, hi, _, _ => by simp at hi
  | c :: kd, [], i, h, _, _, _ => by simp at h
  | c :: kd, w :: ws, 0, h, _, _, hb => by
    simp at hb
    simp [rAll, hb]
  | c :: kd, w :: ws, i + 1, h, hi, ha, hb => by
    have h0 := ha 0 (by omega)
    simp at h0
    have e : rAll ls (c :: kd) (w :: ws) = ((rop ls c w).1 :: (rAll ls kd ws).1, (rAll ls kd ws).2) := by simp [rAll, h0]
    rw [e]
    simpa using rAll_bad ls kd ws i (by simpa using h) (by simpa using hi) (fun q hq => by simpa using ha (q + 1) (by omega)) (by simpa using hb)
theorem spSt_len (c : UInt8) (s : Bs) : ∀ i, ∀ x ∈ (spSt c s i).1, x.length ≤ s.length
  | 0, x, h => by simp [spSt] at h
  | i + 1, x, h => by
    have ih := spSt_len c s i
    unfold spSt at h
    cases hd : decide (s.getD i 0 = c) with
    | false => rw [hd] at h; exact ih x h
    | true =>
      rw [hd] at h
      rcases List.mem_append.1 h with h | h
      · exact ih x h
      · rw [List.mem_singleton.1 h, List.length_drop, List.length_take]; omega
theorem rsplit_len (c : UInt8) (s : Bs) : ∀ x ∈ rsplit c s, x.length ≤ s.length := fun x h => by
  rcases List.mem_append.1 h with h | h
  · exact spSt_len c s _ x h
  · rw [List.mem_singleton.1 h, List.length_drop]; omega
theorem opK_at (k : Nat) (hk : k < 27) : at' opK (k : Int) = (at' opsT (k : Int)).2 := by
  have h1 : k < opK.length := hk
  have h2 : k < opsT.length := hk
  rw [at_nat opK k h1, at_nat opsT k h2]
  simp [opK]
theorem rinstr_ok (ls : List Bs) (s : Bs) (n : Int) (hs : s.length ≤ 900000) (hls : ls.length ≤ 1000000) (hl : ∀ l ∈ ls, l.length ≤ 1000000) :
    ACalls Tryz.prog 48 [.sl (ls.map sv), sv s, iv n] [] (one (.tup [encIns (rinstr ls s n).1, iv (rinstr ls s n).2]) []) := by
  have hsp := rsplit_ok s 32 hs
  unfold rinstr
  cases hws : rsplit 32 s with
  | nil => exact absurd hws (by unfold rsplit; simp)
  | cons w r =>
    rw [hws] at hsp
    simp only
    refine jcalls Tryz.func48 rfl (by kernel_rfl) Tryz.ntmps48 rfl rfl (fun w0 β0 ext hβ => ?_)
    repeat (first | refine js rfl ?_ | (refine jdraw ?_ ?_; · kernel_rfl) | refine jbu rfl rfl rfl rfl ?_ | refine jv hsp rfl rfl rfl rfl rfl ?_)
    refine jloopI (fun k : Nat => k ≤ 27 ∧ ∀ i, i < k → at' opN (i : Int) ≠ w) [0, 1, 2, 6, 8, 9] (fun k => [.sl (ls.map sv), sv s, iv n, .ptr 0 0, .sl ((w :: r).map sv), .v (.int .i64 (k : Int))]) (fun _ => [.box 98 [iv 0, iv 0, iv 0, iv 0]]) (fun k => 27 - k) 0 ⟨Nat.zero_le _, fun i h => absurd h (by omega)⟩ rfl rfl (fun k hk => ?_)
    obtain ⟨hk, hno⟩ := hk
    by_cases hk2 : k < 27
    · have hnm := opName_ok k hk2
      have e1 : decide ((k : Int) < 27) = true := decide_eq_true (by omega)
      have hw0 : (0 : Int) < (((w :: r).length : Nat) : Int) := by rw [List.length_cons]; omega
      have key : ((⟨(at' opN (k : Int)).toArray⟩ : ByteArray).toList != (⟨w.toArray⟩ : ByteArray).toList) = !decide (at' opN (k : Int) = w) := by rw [bne, str_eq]
      have hnx := idx_next hk2 (by omega)
      unfold sv iv at hnm
      repeat (first | refine js rfl ?_ | (refine jdraw ?_ ?_; · kernel_rfl) | refine jbu rfl rfl rfl rfl ?_)
      rw [e1]
      repeat (first | refine js rfl ?_ | (refine jdraw ?_ ?_; · kernel_rfl) | refine jbu rfl rfl rfl rfl ?_ | refine jv hnm rfl rfl rfl rfl rfl ?_ | refine jo rfl rfl (index_at rfl rfl rfl rfl rfl rfl rfl rfl (by decide) hw0) rfl rfl ?_)
      have key := str_eq (at' opN (k : Int)) (at' (w :: r) 0)
      have ew : at' (w :: r) 0 = w := rfl
      rw [key, ew]
      cases hc : decide (at' opN (k : Int) = w) with
      | false =>
        have hc := of_decide_eq_false hc
        repeat (first | refine js rfl ?_ | (refine jdraw ?_ ?_; · kernel_rfl) | refine jbu rfl rfl rfl rfl ?_)
        refine jnextI (k + 1) ⟨by omega, fun i hi => ?_⟩ ?_ rfl (by omega)
        · by_cases hik : i = k
          · subst hik; exact hc
          · exact hno i (by omega)
        · show some _ = some _
          rw [hnx]
      | true =>
        have hc := of_decide_eq_true hc
        have e27 : ((k : Int) == 27) = false := by simp; omega
        repeat (first | refine js rfl ?_ | (refine jdraw ?_ ?_; · kernel_rfl) | refine jbu rfl rfl rfl rfl ?_)
        rw [e27]
        repeat (first | refine js rfl ?_ | (refine jdraw ?_ ?_; · kernel_rfl) | refine jbu rfl rfl rfl rfl ?_)
        have hkd := opKind_ok k hk2
        obtain ⟨hk3, _⟩ := kinds_ok k hk2
        rw [← opK_at k hk2] at hk3
        have hf : findOp w = (k : Int) := by
          unfold findOp
          have hkl : k < opsT.length := hk2
          have hkl2 : k < opN.length := hk2
          rw [List.findIdx?_eq_some_iff_getElem.2 ⟨hkl, by
            rw [at_nat opN k hkl2] at hc
            simpa [opN] using hc, fun j hj => by
            have hjl : j < opN.length := by show j < 27; omega
            have e2 := hno j hj
            rw [at_nat opN j hjl] at e2
            simpa [opN] using e2⟩]
        rw [hf, decide_eq_false (show ¬ (k : Int) < 0 by omega)]
        simp only [cond_false]
        clear hno hf hc key ew hw0 e1
        generalize at' opK (k : Int) = kd at *
        unfold sv iv at hkd
        repeat (first | refine js rfl ?_ | (refine jdraw ?_ ?_; · kernel_rfl) | refine jbu rfl rfl rfl rfl ?_ | refine jv hkd rfl rfl rfl rfl rfl ?_)
        have hwb : r.length ≤ 1000000 := by
          have := (spSt_le 32 s s.length).2
          have h2 := congrArg List.length hws
          unfold rsplit at h2
          simp at h2
          omega
        have hcnd : ((((w :: r).map sv).length : Int) != IntKind.i64.wrap (1 + (ByteArray.size ⟨kd.toArray⟩ : Int))) = !decide (r.length = kd.length) := by
          have e1 : ByteArray.size ⟨kd.toArray⟩ = kd.length := rfl
          rw [e1, wrap_id (by omega) (by omega), Bool.eq_iff_iff]
          simp
          omega
        rw [hcnd]
        unfold rinstrK
        cases hb : decide (r.length = kd.length) with
        | false =>
          simp only [Bool.not_false, cond_false]
          repeat (first | refine js rfl ?_ | (refine jdraw ?_ ?_; · kernel_rfl) | refine jbu rfl rfl rfl rfl ?_)
          exact jr rfl rfl rfl rfl
        | true =>
          have hlen := of_decide_eq_true hb
          simp only [Bool.not_true, cond_true]
          repeat (first | refine js rfl ?_ | (refine jdraw ?_ ?_; · kernel_rfl) | refine jbu rfl rfl rfl rfl ?_)
          let ok : Nat → Prop := fun i => i ≤ kd.length ∧ ∀ q, q < i → (rop ls (kd.getD q 0) (r.getD q [])).2 = 0
          let vv : Nat → Nat → AVal := fun q i => iv (cond (decide (q < i)) (rop ls (kd.getD q 0) (r.getD q [])).1 0)
          refine jloopI ok [0, 2, 6, 8, 9, 10, 11, 12] (fun i => [.sl (ls.map sv), iv n, .ptr 0 0, .sl ((w :: r).map sv), .v (.int .i64 (k : Int)), sv kd, .ptr 1 0, .v (.int .i64 (i : Int))])
            (fun i => [.box 98 [iv 0, iv 0, iv 0, iv 0], .box 138 [vv 0 i, vv 1 i, vv 2 i]]) (fun i => kd.length - i) 0 ⟨Nat.zero_le _, fun q hq => absurd hq (by omega)⟩ rfl rfl (fun i hi => ?_)
          obtain ⟨hi, hok⟩ := hi
          have hkl : ByteArray.size ⟨kd.toArray⟩ = kd.length := rfl
          repeat (first | refine js rfl ?_ | (refine jdraw ?_ ?_; · kernel_rfl) | refine jbu rfl rfl rfl rfl ?_)
          refine jc rfl rfl rfl (fun h => ?_) (fun h => ?_)
          · have h := of_decide_eq_true h
            have hik : i < kd.length := by rw [hkl] at h; omega
            have hnx := idx_next hik (by omega)
            have hnx2 : IntKind.i64.wrap (1 + (i : Int)) = ((i + 1 : Nat) : Int) := by rw [Int.add_comm]; exact hnx
            have hwd : at' (w :: r) (IntKind.i64.wrap (1 + (i : Int))) = r.getD i [] := by
              rw [hnx2]; simp [at']; rfl
            obtain ⟨c, hc⟩ : ∃ c, kd[i]? = some c := ⟨_, List.getElem?_eq_getElem hik⟩
            have hcb := str_at hc
            have hcd : kd.getD i 0 = c := by simp [List.getD, hc]
            have hl1 : (0 : Int) ≤ IntKind.i64.wrap (1 + (i : Int)) := by rw [hnx2]; omega
            have hl2 : IntKind.i64.wrap (1 + (i : Int)) < ((w :: r).length : Int) := by rw [hnx2, List.length_cons]; omega
            have hwl2 : (at' (w :: r) (IntKind.i64.wrap (1 + (i : Int)))).length ≤ 1000000 := by
              rw [hwd]
              have hir : i < r.length := by omega
              have hm : r.getD i [] ∈ rsplit 32 s := by rw [hws]; refine List.mem_cons_of_mem _ ?_; simp [List.getD, hir]
              exact Nat.le_trans (rsplit_len 32 s _ hm) (by omega)
            have hop := rop_ok ls c (at' (w :: r) (IntKind.i64.wrap (1 + (i : Int)))) hwl2 hls hl
            have hrd : rop ls (kd.getD i 0) (r.getD i []) = rop ls c (at' (w :: r) (IntKind.i64.wrap (1 + (i : Int)))) := by rw [hwd, hcd]
            unfold sv at hop
            repeat (first | refine js rfl ?_ | (refine jdraw ?_ ?_; · kernel_rfl) | refine jbu rfl rfl rfl rfl ?_ | refine jo rfl rfl (index_str rfl rfl rfl rfl (Int.natCast_nonneg i) hcb) rfl rfl ?_ | refine jo rfl rfl (index_at rfl rfl rfl rfl rfl rfl rfl rfl hl1 hl2) rfl rfl ?_ | refine jv hop rfl rfl rfl rfl rfl ?_)
            generalize rop ls c (at' (w :: r) (IntKind.i64.wrap (1 + (i : Int)))) = p at *
            obtain ⟨p1, p2⟩ := p
            by_cases hp : p2 = 0
            · subst hp
              have hok' : ok (i + 1) := ⟨by omega, fun q hq => by
                by_cases hqi : q = i
                · subst hqi; rw [hrd]
                · exact hok q (by omega)⟩
              have hi3 : i = 0 ∨ i = 1 ∨ i = 2 := by omega
              rcases hi3 with rfl | rfl | rfl
              all_goals (
                repeat (first | refine js rfl ?_ | (refine jdraw ?_ ?_; · kernel_rfl) | refine jbu rfl rfl rfl rfl ?_ | refine jo rfl rfl (index_arr rfl rfl rfl rfl rfl (by omega) (by omega)) rfl rfl ?_)
              )
              all_goals refine jnextI (_ + 1) hok' ?_ ?_ ?_
              all_goals first | omega | rfl | (show _ = _; simp only [vv, hrd]; rfl)
            · have hbad := rAll_bad ls kd r i hlen hik hok (by rw [hrd]; exact hp)
              rw [hrd] at hbad
              have hp' : (p2 != 0) = true := by simpa using hp
              rw [hbad, decide_eq_false hp]
              simp only [cond_false]
              simp only [hp']
              repeat (first | refine js rfl ?_ | (refine jdraw ?_ ?_; · kernel_rfl) | refine jbu rfl rfl rfl rfl ?_)
              exact jr rfl rfl rfl rfl
          · have h := of_decide_eq_false h
            have hi' : i = kd.length := by rw [hkl] at h; omega
            subst hi'
            obtain ⟨k1, k2⟩ := rAll_ok ls kd r hlen hok
            have hq : ∀ q, (rAll ls kd r).1.getD q 0 = cond (decide (q < kd.length)) (rop ls (kd.getD q 0) (r.getD q [])).1 0 := by
              intro q
              by_cases hql : q < kd.length
              · rw [k2 q hql, decide_eq_true hql]; rfl
              · rw [decide_eq_false hql]
                have := rAll_len ls kd r
                simp [List.getD, List.getElem?_eq_none (show (rAll ls kd r).1.length ≤ q by omega)]
            rw [k1, hq 0, hq 1, hq 2]
            simp only [decide_true, cond_true]
            repeat (first | refine js rfl ?_ | (refine jdraw ?_ ?_; · kernel_rfl) | refine jbu rfl rfl rfl rfl ?_)
            cases hn : decide (n ≥ 1000) with
            | true =>
              repeat (first | refine js rfl ?_ | (refine jdraw ?_ ?_; · kernel_rfl) | refine jbu rfl rfl rfl rfl ?_)
              exact jr rfl rfl rfl rfl
            | false =>
              repeat (first | refine js rfl ?_ | (refine jdraw ?_ ?_; · kernel_rfl) | refine jbu rfl rfl rfl rfl ?_ | refine jo rfl rfl (index_arr rfl rfl rfl rfl rfl (by omega) (by omega)) rfl rfl ?_)
              exact jr rfl rfl rfl rfl
    · have hk27 : k = 27 := by omega
      subst hk27
      have hf : findOp w = -1 := by
        unfold findOp
        rw [List.findIdx?_eq_none_iff.2 fun p hp => by
          obtain ⟨i, hi, rfl⟩ := List.getElem_of_mem hp
          have hi' : i < 27 := hi
          have e2 := hno i hi'
          have hl : i < opN.length := hi'
          rw [at_nat opN i hl] at e2
          simpa [opN] using e2]
      rw [hf]
      repeat (first | refine js rfl ?_ | (refine jdraw ?_ ?_; · kernel_rfl) | refine jbu rfl rfl rfl rfl ?_)
      exact jr rfl rfl rfl rfl
end Go.AL
end
section
set_option maxRecDepth 100000
namespace Go.AL
open Go Go.Proofs
attribute [local irreducible] J
def rpSt (ls : List Bs) (k : Nat) : List Ins := (ls.take k).foldl (fun cd l => cond (rlab l) cd (cd ++ [(rinstr ls l cd.length).1])) []
def rpE (ls : List Bs) (k : Nat) : Int := cond (rlab (ls.getD k [])) (cond (rname (ls.getD k []).dropLast) (cond ((ls.take k).any fun l => decide (l = ls.getD k [])) 11 0) 12) (rinstr ls (ls.getD k []) (rpSt ls k).length).2
def rlines (s : Bs) : List Bs := (rsplit 10 s).dropLast
def rparse (s : Bs) : List Ins × Int × Int :=
  cond (decide (s.length > 40000)) ([], 0, 2)
    (match bad1 (rpE (rlines s)) (rlines s).length with
     | some k => ([], (k : Int) + 1, rpE (rlines s) k)
     | none => cond (decide ((rsplit 10 s).getLast? = some [])) (rpSt (rlines s) (rlines s).length, 0, 0) ([], ((rsplit 10 s).length : Int), 12))
theorem rpSt_succ {ls : List Bs} {k : Nat} (h : k < ls.length) : rpSt ls (k + 1) = cond (rlab ls[k]) (rpSt ls k) (rpSt ls k ++ [(rinstr ls ls[k] (rpSt ls k).length).1]) := by
  unfold rpSt
  rw [List.take_succ_eq_append_getElem h, List.foldl_append]; rfl
theorem rpSt_le (ls : List Bs) : ∀ k, k ≤ ls.length → (rpSt ls k).length ≤ k
  | 0, _ => Nat.le_refl _
  | k + 1, hk => by
    have ih := rpSt_le ls k (by omega)
    rw [rpSt_succ (show k < ls.length by omega)]
    cases rlab ls[k] <;> simp <;> omega
theorem rlab_pos {s : Bs} (h : rlab s = true) : 0 < s.length := by
  cases s with
  | nil => simp [rlab] at h
  | cons a t => simp
theorem rparse_ok (s : Bs) (hs : s.length ≤ 900000) : ACalls Tryz.prog 11 [sv s] [] (one (.tup [encIs (rparse s).1, iv (rparse s).2.1, iv (rparse s).2.2]) []) := by
  have hsp := rsplit_ok s 10 hs
  unfold rparse
  have hsz : ((ByteArray.size ⟨s.toArray⟩ : Int) > 40000) = (s.length > 40000) := by
    rw [show ByteArray.size ⟨s.toArray⟩ = s.length from rfl]; apply propext; omega
  by_cases h4 : s.length > 40000
  · rw [decide_eq_true h4]
    have hd : decide ((ByteArray.size ⟨s.toArray⟩ : Int) > 40000) = true := decide_eq_true (hsz ▸ h4)
    refine jcalls Tryz.func11 rfl (by kernel_rfl) Tryz.ntmps11 rfl rfl (fun w0 β0 ext hβ => ?_)
    repeat (first | refine js rfl ?_ | (refine jdraw ?_ ?_; · kernel_rfl) | refine jbu rfl rfl rfl rfl ?_)
    rw [hd]
    repeat (first | refine js rfl ?_ | (refine jdraw ?_ ?_; · kernel_rfl) | refine jbu rfl rfl rfl rfl ?_)
    exact jr rfl rfl rfl rfl
  · rw [decide_eq_false h4]
    have hd : decide ((ByteArray.size ⟨s.toArray⟩ : Int) > 40000) = false := decide_eq_false (hsz ▸ h4)
    have hall : (rsplit 10 s).length ≤ 900001 := by
      have := (spSt_le 10 s s.length).2
      unfold rsplit
      simp
      omega
    have hpos : 0 < (rsplit 10 s).length := by unfold rsplit; simp
    have hlen := rsplit_len 10 s
    have hcut : IntKind.i64.wrap ((((rsplit 10 s).map sv).length : Int) - 1) = ((min (rsplit 10 s).length ((rsplit 10 s).length - 1) : Nat) : Int) := by
      rw [List.length_map, wrap_id (by omega) (by omega)]; omega
    have hdl : (rsplit 10 s).take ((rsplit 10 s).length - 1) = rlines s := by
      unfold rlines; rw [List.dropLast_eq_take]
    simp only [cond_false]
    refine jcalls Tryz.func11 rfl (by kernel_rfl) Tryz.ntmps11 rfl rfl (fun w0 β0 ext hβ => ?_)
    repeat (first | refine js rfl ?_ | (refine jdraw ?_ ?_; · kernel_rfl) | refine jv hsp rfl rfl rfl rfl rfl ?_)
    rw [hd]
    repeat (first | refine js rfl ?_ | (refine jdraw ?_ ?_; · kernel_rfl) | refine jv hsp rfl rfl rfl rfl rfl ?_)
    refine jo rfl rfl (cut_take ((rsplit 10 s).length - 1) rfl rfl rfl hcut rfl rfl rfl (fun _ => ⟨rfl, rfl⟩)) rfl rfl ?_
    rw [hdl]
    repeat (first | refine js rfl ?_ | (refine jdraw ?_ ?_; · kernel_rfl))
    refine jbo rfl rfl rfl rfl rfl rfl rfl rfl ?_
    repeat (first | refine js rfl ?_ | (refine jdraw ?_ ?_; · kernel_rfl) | refine jbu rfl rfl rfl rfl ?_)
    have hll : (rlines s).length ≤ 900000 := by unfold rlines; rw [List.length_dropLast]; omega
    have hlm : ∀ l ∈ rlines s, l.length ≤ 900000 := fun l hm => Nat.le_trans (hlen l (List.dropLast_subset _ hm)) hs
    have hend : rlines s = (rsplit 10 s).dropLast := rfl
    generalize rlines s = ls at *
    refine jloop 1 (fun k : Nat => k ≤ ls.length ∧ ∀ q, q < k → rpE ls q = 0) [5, 6, 7, 24, 25, 26] (fun k => [.sl ((rsplit 10 s).map sv), .sl (ls.map sv), .arr 0 ((rpSt ls k).length + 1), .sl (ls.map sv), .v (.int .i64 ((ls.map sv).length : Int)), .v (.int .i64 (k : Int))])
      (fun k => [.arr ((rpSt ls k).length + 1) 98 ty98.size ((rpSt ls k).map encIns)]) (fun k => ls.length - k) 0 (by rw [hβ]; decide) ⟨Nat.zero_le _, fun q h => absurd h (by omega)⟩ rfl rfl (fun k hk => ?_)
    obtain ⟨hk, hok⟩ := hk
    have hcd := rpSt_le ls k hk
    repeat (first | refine js rfl ?_ | (refine jdraw ?_ ?_; · kernel_rfl) | refine jbu rfl rfl rfl rfl ?_)
    refine jc rfl rfl rfl (fun h => ?_) (fun h => ?_)
    · have h := of_decide_eq_true h
      rw [List.length_map] at h
      have hk2 : k < ls.length := by omega
      have hat := at_nat ls k hk2
      have hgd : ls.getD k [] = at' ls (k : Int) := by rw [hat]; simp [List.getD, hk2]
      have hl9 : (at' ls (k : Int)).length ≤ 900000 := by rw [hat]; exact hlm _ (List.getElem_mem hk2)
      have hlab := rlab_ok (at' ls (k : Int)) (by omega)
      have hst := rpSt_succ hk2
      rw [← hat] at hst
      have hnx := idx_next hk2 (by omega)
      have hw1 : IntKind.i64.wrap ((k : Int) + 1) = (k : Int) + 1 := wrap_id (by omega) (by omega)
      have hE : rpE ls k = cond (rlab (at' ls (k : Int))) (cond (rname (at' ls (k : Int)).dropLast) (cond ((ls.take k).any fun l => decide (l = at' ls (k : Int))) 11 0) 12) (rinstr ls (at' ls (k : Int)) (rpSt ls k).length).2 := by
        unfold rpE; rw [hgd]
      unfold sv bv at hlab
      cases hr : rlab (at' ls (k : Int)) with
      | false =>
        rw [hr] at hlab hst hE
        simp only [cond_false] at hst hE
        have hin : ACalls Tryz.prog 48 [.sl (ls.map sv), .v (S (at' ls (k : Int))), .v (.int .i64 (((rpSt ls k).map encIns).length : Int))] [] (one (.tup [encIns (rinstr ls (at' ls (k : Int)) (rpSt ls k).length).1, iv (rinstr ls (at' ls (k : Int)) (rpSt ls k).length).2]) []) := by
          rw [List.length_map (f := encIns)]
          exact rinstr_ok ls (at' ls (k : Int)) ((rpSt ls k).length : Int) hl9 (by omega) (fun l hm => by have := hlm l hm; omega)
        have hnext : rpE ls k = 0 → ∀ q, q < k + 1 → rpE ls q = 0 := fun h0 q hq => by
          by_cases hqk : q = k
          · subst hqk; exact h0
          · exact hok q (by omega)
        generalize rinstr ls (at' ls (k : Int)) (rpSt ls k).length = ip at *
        obtain ⟨ins, bad⟩ := ip
        simp only at hst hE hin
        repeat (first | refine js rfl ?_ | (refine jdraw ?_ ?_; · kernel_rfl) | refine jbu rfl rfl rfl rfl ?_ | refine jo rfl rfl (index_at rfl rfl rfl rfl rfl rfl rfl rfl (Int.natCast_nonneg k) h) rfl rfl ?_ | refine jv hlab rfl rfl rfl rfl rfl ?_ | refine jo rfl rfl (len_arr rfl rfl rfl rfl) rfl rfl ?_ | refine jv hin rfl rfl rfl rfl rfl ?_)
        by_cases hb0 : bad = 0
        · subst hb0
          repeat (first | refine jo rfl rfl (append_enc (enc := encIns) (l := rpSt ls k) ins rfl rfl rfl rfl rfl rfl rfl rfl rfl rfl (fun _ => ⟨rfl, rfl⟩) rfl (by omega) rfl rfl) rfl rfl ?_ | refine js rfl ?_ | (refine jdraw ?_ ?_; · kernel_rfl) | refine jbu rfl rfl rfl rfl ?_)
          have el : (rpSt ls k).length + 1 = (rpSt ls (k + 1)).length := by rw [hst]; simp
          refine jnext (k + 1) ⟨by omega, hnext hE⟩ (by omega) rfl rfl rfl ?_ ?_
          · rw [hnx, ← el]
          · rw [hst]; simp
        · have e1 : (bad != 0) = true := by simpa using hb0
          rw [e1]
          rw [bad1_some hok (by rw [hE]; exact hb0) hk2]
          repeat (first | refine js rfl ?_ | (refine jdraw ?_ ?_; · kernel_rfl) | refine jbu rfl rfl rfl rfl ?_)
          rw [hw1]
          dsimp only
          rw [hE]
          exact jr rfl rfl rfl rfl
      | true =>
        rw [hr] at hlab hst hE
        simp only [cond_true] at hst hE
        have hne := rlab_pos hr
        have hnm := rname_ok (at' ls (k : Int)).dropLast (by rw [List.length_dropLast]; omega)
        have hsz2 : ByteArray.size ⟨(at' ls (k : Int)).toArray⟩ = (at' ls (k : Int)).length := rfl
        have hw : IntKind.i64.wrap (((at' ls (k : Int)).length : Int) - 1) = (((at' ls (k : Int)).length - 1 : Nat) : Int) := by
          rw [wrap_id (by omega) (by omega)]; omega
        have hdr : (at' ls (k : Int)).take ((at' ls (k : Int)).length - 1) = (at' ls (k : Int)).dropLast := by rw [List.dropLast_eq_take]
        unfold sv bv at hnm
        repeat (first | refine js rfl ?_ | (refine jdraw ?_ ?_; · kernel_rfl) | refine jbu rfl rfl rfl rfl ?_ | refine jo rfl rfl (index_at rfl rfl rfl rfl rfl rfl rfl rfl (Int.natCast_nonneg k) h) rfl rfl ?_ | refine jv hlab rfl rfl rfl rfl rfl ?_)
        rw [hsz2, hw]
        refine jo rfl rfl (cutH ((at' ls (k : Int)).length - 1) rfl rfl rfl rfl rfl (by omega)) rfl rfl ?_
        rw [hdr]
        cases hn : rname (at' ls (k : Int)).dropLast with
        | false =>
          rw [hn] at hnm hE
          simp only [cond_false] at hE
          rw [bad1_some hok (by rw [hE]; decide) hk2]
          repeat (first | refine js rfl ?_ | (refine jdraw ?_ ?_; · kernel_rfl) | refine jbu rfl rfl rfl rfl ?_ | refine jv hnm rfl rfl rfl rfl rfl ?_)
          rw [hw1]
          dsimp only
          rw [hE]
          exact jr rfl rfl rfl rfl
        | true =>
          rw [hn] at hnm hE
          simp only [cond_true] at hE
          repeat (first | refine js rfl ?_ | (refine jdraw ?_ ?_; · kernel_rfl) | refine jbu rfl rfl rfl rfl ?_ | refine jv hnm rfl rfl rfl rfl rfl ?_)
          refine jloopI (fun j : Nat => j ≤ k ∧ ((ls.take k).any fun l => decide (l = at' ls (k : Int))) = (((ls.take k).drop j).any fun l => decide (l = at' ls (k : Int)))) [5, 6, 7, 24, 25, 26, 8, 9, 10] (fun j => [.sl ((rsplit 10 s).map sv), .sl (ls.map sv), .arr 0 ((rpSt ls k).length + 1), .sl (ls.map sv), .v (.int .i64 ((ls.map sv).length : Int)), .v (.int .i64 (k : Int)), .v (.int .i64 (k : Int)), .v (S (at' ls (k : Int))), .v (.int .i64 (j : Int))])
            (fun _ => [.arr ((rpSt ls k).length + 1) 98 ty98.size ((rpSt ls k).map encIns)]) (fun j => k - j) 0 ⟨Nat.zero_le _, rfl⟩ rfl rfl (fun j hj => ?_)
          obtain ⟨hj, hjs⟩ := hj
          repeat (first | refine js rfl ?_ | (refine jdraw ?_ ?_; · kernel_rfl) | refine jbu rfl rfl rfl rfl ?_)
          refine jc rfl rfl rfl (fun h2 => ?_) (fun h2 => ?_)
          · have h2 := of_decide_eq_true h2
            have hj2 : j < ls.length := by omega
            have h2' : j < k := by omega
            have hat2 := at_nat ls j hj2
            repeat (first | refine js rfl ?_ | (refine jdraw ?_ ?_; · kernel_rfl) | refine jbu rfl rfl rfl rfl ?_ | refine jo rfl rfl (index_at rfl rfl rfl rfl rfl rfl rfl rfl (Int.natCast_nonneg j) (show (j : Int) < ls.length by omega)) rfl rfl ?_)
            rw [str_eq]
            have hjt : j < (ls.take k).length := by rw [List.length_take]; omega
            have hjd : ((ls.take k).drop j).any (fun l => decide (l = at' ls (k : Int))) = (decide (at' ls (j : Int) = at' ls (k : Int)) || ((ls.take k).drop (j + 1)).any (fun l => decide (l = at' ls (k : Int)))) := by
              rw [List.drop_eq_getElem_cons hjt, List.any_cons, List.getElem_take, ← hat2]
            rw [hjd] at hjs
            cases hc : decide (at' ls (j : Int) = at' ls (k : Int)) with
            | true =>
              rw [hjs, hc] at hE
              simp only [Bool.true_or, cond_true] at hE
              rw [bad1_some hok (by rw [hE]; decide) hk2]
              repeat (first | refine js rfl ?_ | (refine jdraw ?_ ?_; · kernel_rfl) | refine jbu rfl rfl rfl rfl ?_)
              rw [hw1]
              dsimp only
              rw [hE]
              exact jr rfl rfl rfl rfl
            | false =>
              rw [hc, Bool.false_or] at hjs
              have hnj := idx_next h2' (by omega)
              repeat (first | refine js rfl ?_ | (refine jdraw ?_ ?_; · kernel_rfl) | refine jbu rfl rfl rfl rfl ?_)
              refine jnextI (j + 1) ⟨by omega, hjs⟩ ?_ rfl (by omega)
              show some _ = some _
              rw [hnj]
          · have h2 := of_decide_eq_false h2
            have hj2 : j = k := by omega
            rw [hj2, List.drop_of_length_le (by rw [List.length_take]; omega)] at hjs
            rw [hjs] at hE
            simp only [List.any_nil, cond_false] at hE
            have hnext : ∀ q, q < k + 1 → rpE ls q = 0 := fun q hq => by
              by_cases hqk : q = k
              · subst hqk; exact hE
              · exact hok q (by omega)
            repeat (first | refine js rfl ?_ | (refine jdraw ?_ ?_; · kernel_rfl) | refine jbu rfl rfl rfl rfl ?_)
            refine jnext (k + 1) ⟨by omega, hnext⟩ (by omega) rfl rfl rfl ?_ ?_
            · rw [hnx, hst]
            · rw [hst]
    · have h := of_decide_eq_false h
      rw [List.length_map] at h
      have hk2 : k = ls.length := by omega
      subst hk2
      rw [bad1_none hok]
      have hw2 : IntKind.i64.wrap ((((rsplit 10 s).map sv).length : Int) - 1) = (((rsplit 10 s).length - 1 : Nat) : Int) := by
        rw [List.length_map, wrap_id (by omega) (by omega)]; omega
      repeat (first | refine js rfl ?_ | (refine jdraw ?_ ?_; · kernel_rfl) | refine jbu rfl rfl rfl rfl ?_)
      rw [hw2]
      repeat (first | refine js rfl ?_ | (refine jdraw ?_ ?_; · kernel_rfl) | refine jbu rfl rfl rfl rfl ?_ | refine jo rfl rfl (index_at rfl rfl rfl rfl rfl rfl rfl rfl (Int.natCast_nonneg _) (show (((rsplit 10 s).length - 1 : Nat) : Int) < (rsplit 10 s).length by omega)) rfl rfl ?_)
      have key : ((⟨(at' (rsplit 10 s) (((rsplit 10 s).length - 1 : Nat) : Int)).toArray⟩ : ByteArray).toList == ({data := #[]} : ByteArray).toList) = decide (at' (rsplit 10 s) (((rsplit 10 s).length - 1 : Nat) : Int) = []) := str_eq _ []
      have hlast : (rsplit 10 s).getLast? = some (at' (rsplit 10 s) (((rsplit 10 s).length - 1 : Nat) : Int)) := by
        rw [at_nat _ _ (show (rsplit 10 s).length - 1 < (rsplit 10 s).length by omega), List.getLast?_eq_getElem?, List.getElem?_eq_getElem]
      have hq : decide ((rsplit 10 s).getLast? = some []) = decide (at' (rsplit 10 s) (((rsplit 10 s).length - 1 : Nat) : Int) = []) := by
        rw [hlast]; simp
      rw [key, hq]
      cases hc : decide (at' (rsplit 10 s) (((rsplit 10 s).length - 1 : Nat) : Int) = []) with
      | false =>
        repeat (first | refine js rfl ?_ | (refine jdraw ?_ ?_; · kernel_rfl) | refine jbu rfl rfl rfl rfl ?_)
        rw [List.length_map]
        exact jr rfl rfl rfl rfl
      | true =>
        repeat (first | refine js rfl ?_ | (refine jdraw ?_ ?_; · kernel_rfl) | refine jbu rfl rfl rfl rfl ?_)
        exact jr rfl (fin_arr rfl rfl rfl rfl) rfl rfl
end Go.AL
end
section
set_option maxRecDepth 100000
namespace Go.AL
open Go Go.Proofs
attribute [local irreducible] J
theorem same_ok (l : List Ins) (hl : l.length ≤ 1000000) : ACalls Tryz.prog 51 [encIs l, encIs l] [] (one (bv true) []) := by
  unfold encIs
  refine jcalls Tryz.func51 rfl (by kernel_rfl) Tryz.ntmps51 rfl rfl (fun w0 β0 ext hβ => ?_)
  repeat (first | refine js rfl ?_ | (refine jdraw ?_ ?_; · kernel_rfl) | refine jbu rfl rfl rfl rfl ?_)
  refine jc rfl rfl rfl (fun h => absurd h (by simp)) (fun h => ?_)
  repeat (first | refine js rfl ?_ | (refine jdraw ?_ ?_; · kernel_rfl) | refine jbu rfl rfl rfl rfl ?_)
  refine jloopI (fun i : Nat => i ≤ l.length) [0, 1, 12, 13] (fun i => [.sl (l.map encIns), .sl (l.map encIns), .v (.int .i64 (l.map encIns).length), .v (.int .i64 i)]) (fun _ => []) (fun i => l.length - i) 0 (by omega) rfl rfl (fun i hi => ?_)
  repeat (first | refine js rfl ?_ | (refine jdraw ?_ ?_; · kernel_rfl) | refine jbu rfl rfl rfl rfl ?_)
  refine jc rfl rfl rfl (fun h => ?_) (fun h => ?_)
  · have h := of_decide_eq_true h
    rw [List.length_map] at h
    have hi1 : i < l.length := by omega
    have w1 := idx_next hi1 (by omega)
    have hx : encIns (at' l (i : Int)) = .agg (intsA [(at' l (i : Int)).op, (at' l (i : Int)).a, (at' l (i : Int)).b, (at' l (i : Int)).c]) := rfl
    repeat (first | refine js rfl ?_ | (refine jdraw ?_ ?_; · kernel_rfl) | refine jbu rfl rfl rfl rfl ?_ | refine jo rfl rfl (index_at rfl rfl rfl rfl rfl rfl rfl rfl (Int.natCast_nonneg i) h) rfl rfl ?_ | refine jo rfl rfl (eq_ints (xs := [(at' l (i : Int)).op, (at' l (i : Int)).a, (at' l (i : Int)).b, (at' l (i : Int)).c]) (ys := [(at' l (i : Int)).op, (at' l (i : Int)).a, (at' l (i : Int)).b, (at' l (i : Int)).c]) (Or.inr rfl) rfl rfl rfl rfl rfl rfl (by kernel_rfl) (by kernel_rfl)) rfl rfl ?_)
    refine jc rfl rfl rfl (fun h => absurd h (by simp)) (fun h => ?_)
    repeat (first | refine js rfl ?_ | (refine jdraw ?_ ?_; · kernel_rfl) | refine jbu rfl rfl rfl rfl ?_)
    refine jnextI (i + 1) (by omega) ?_ rfl (by omega)
    show some _ = some _
    rw [w1]
  · repeat (first | refine js rfl ?_ | (refine jdraw ?_ ?_; · kernel_rfl) | refine jbu rfl rfl rfl rfl ?_)
    exact jr rfl rfl rfl rfl
deriving instance DecidableEq for Ins
end Go.AL
end
section
namespace Go.AL
open Go Go.Proofs
def consH (p : Bs) : List Bs → List Bs
  | [] => [p]
  | h :: t => (p ++ h) :: t
def cuts (c : UInt8) : Bs → List Bs
  | [] => [[]]
  | b :: r => if b = c then [] :: cuts c r else consH [b] (cuts c r)
theorem consH_ne (p : Bs) (l : List Bs) : consH p l ≠ [] := by cases l <;> simp [consH]
theorem cuts_ne (c : UInt8) (s : Bs) : cuts c s ≠ [] := by
  cases s with
  | nil => simp [cuts]
  | cons b r => unfold cuts; split; · simp
                · exact consH_ne _ _
theorem consH_nil {l : List Bs} (h : l ≠ []) : consH [] l = l := by
  cases l with
  | nil => exact absurd rfl h
  | cons a t => rfl
theorem consH_consH (p q : Bs) (l : List Bs) : consH p (consH q l) = consH (p ++ q) l := by
  cases l <;> simp [consH]
theorem rsplit_inv (c : UInt8) (s : Bs) : ∀ i, i ≤ s.length → cuts c s = (spSt c s i).1 ++ consH ((s.take i).drop (spSt c s i).2) (cuts c (s.drop i))
  | 0, _ => by simp [spSt, consH_nil (cuts_ne c s)]
  | i + 1, h => by
    have ih := rsplit_inv c s i (by omega)
    have hi : i < s.length := by omega
    have hle := (spSt_le c s i).1
    have hg : s.getD i 0 = s[i] := by simp [List.getD, hi]
    rw [List.drop_eq_getElem_cons hi] at ih
    rw [ih, show spSt c s (i + 1) = cond (decide (s.getD i 0 = c)) ((spSt c s i).1 ++ [(s.take i).drop (spSt c s i).2], i + 1) (spSt c s i) from rfl]
    rw [hg]
    rw [cuts]
    by_cases hb : s[i] = c
    · rw [if_pos hb, decide_eq_true hb]
      simp only [cond_true]
      rw [show (s.take (i + 1)).drop (i + 1) = [] from by rw [List.drop_eq_nil_iff]; rw [List.length_take]; omega, consH_nil (cuts_ne _ _)]
      simp [consH]
    · rw [if_neg hb, decide_eq_false hb]
      simp only [cond_false]
      rw [consH_consH, List.take_succ_eq_append_getElem hi, List.drop_append_of_le_length (by rw [List.length_take]; omega)]
theorem rsplit_eq (c : UInt8) (s : Bs) : rsplit c s = cuts c s := by
  have := rsplit_inv c s s.length (Nat.le_refl _)
  rw [this]
  simp [rsplit, cuts, consH]
theorem index1_cons (b c : UInt8) (l : Bs) : Lib.index (b :: l) [c] = if b = c then 0 else if Lib.index l [c] = -1 then -1 else Lib.index l [c] + 1 := by
  rw [Lib.index]
  by_cases h : b = c
  · simp [h, List.isPrefixOf]
  · have : ¬ c = b := fun e => h e.symm
    simp [h, this, List.isPrefixOf]
theorem splitK_cons (b c : UInt8) (l : Bs) (h : ¬ b = c) (k : Nat) : Lib.splitK [c] 0 k (b :: l) = consH [b] (Lib.splitK [c] 0 k l) := by
  cases k with
  | zero => rfl
  | succ k =>
    have hge := Lib.index_ge l [c]
    rw [Lib.splitK, Lib.splitK, index1_cons, if_neg h]
    by_cases h1 : Lib.index l [c] = -1
    · simp [h1, consH]
    · have e1 : (Lib.index l [c] + 1 == -1) = false := by simp; omega
      have e2 : (Lib.index l [c] == -1) = false := by simp [h1]
      have e3 : (Lib.index l [c] + 1).toNat = (Lib.index l [c]).toNat + 1 := by omega
      rw [if_neg h1, e1, e2, e3]
      simp [consH]
theorem splitK_eq (c : UInt8) : ∀ (s : Bs) (k : Nat), s.count c ≤ k → Lib.splitK [c] 0 k s = cuts c s
  | [], k, _ => by
    cases k with
    | zero => rfl
    | succ k => simp [Lib.splitK, Lib.index, cuts]
  | b :: l, k, h => by
    rw [cuts]
    by_cases hb : b = c
    · subst hb
      rw [List.count_cons_self] at h
      rw [if_pos rfl]
      cases k with
      | zero => omega
      | succ k =>
        rw [← splitK_eq b l k (by omega), Lib.splitK, index1_cons, if_pos rfl]
        simp
    · rw [if_neg hb, splitK_cons b c l hb, splitK_eq c l k (by rw [List.count_cons_of_ne (by simpa using hb)] at h; exact h)]
theorem countFrom_ge (c : UInt8) : ∀ (n : Nat) (s : Bs), s.length ≤ n → ∀ f, n < f → s.count c ≤ Lib.countFrom [c] f s
  | n, [], _, f, _ => by simp
  | 0, b :: l, h, f, _ => by simp at h
  | n + 1, b :: l, h, f, hf => by
    cases f with
    | zero => omega
    | succ f =>
      rw [Lib.countFrom, index1_cons]
      have hl : l.length ≤ n := by simpa using h
      by_cases hb : b = c
      · subst hb
        rw [if_pos rfl, List.count_cons_self]
        have := countFrom_ge b n l hl f (by omega)
        simp
        omega
      · rw [if_neg hb, List.count_cons_of_ne (by simpa using hb)]
        have ih := countFrom_ge c n l hl (f + 1) (by omega)
        rw [Lib.countFrom] at ih
        have hge := Lib.index_ge l [c]
        by_cases h1 : Lib.index l [c] = -1
        · simpa [h1] using ih
        · have e1 : (Lib.index l [c] + 1 == -1) = false := by simp; omega
          have e2 : (Lib.index l [c] == -1) = false := by simp [h1]
          have e3 : (Lib.index l [c] + 1).toNat = (Lib.index l [c]).toNat + 1 := by omega
          rw [e2] at ih
          rw [if_neg h1, e1, e3]
          simpa using ih
theorem split_eq (c : UInt8) (s : Bs) : Lib.split s [c] = cuts c s :=
  splitK_eq c s _ (countFrom_ge c s.length s (Nat.le_refl _) _ (by omega))
end Go.AL
end
section
namespace Go.AL
open Go Go.Proofs
theorem notN_azn (c : UInt8) : notN c.toNat = !azn c := by
  have : ∀ x : Fin 256, notN x.val = !(!((decide ((x.val : Int) < 97) || decide ((x.val : Int) > 122)) && (decide ((x.val : Int) < 48) || decide ((x.val : Int) > 57)))) := by decide +kernel
  exact this ⟨c.toNat, c.toNat_lt⟩
theorem notN_high (r : Nat) (h : 128 ≤ r) : notN r = true := by
  unfold notN inn
  have e1 : decide ((r : Int) ≤ 122) = false := by simp; omega
  have e2 : decide ((r : Int) ≤ 57) = false := by simp; omega
  simp [e1, e2]
theorem azn_low {c : UInt8} (h : azn c = true) : c.toNat < 128 := by
  unfold azn at h
  simp at h
  omega
theorem get_at (s : Bs) (i : Nat) (h : i < s.length) : ((⟨s.toArray⟩ : ByteArray)[i]'h) = s[i] := rfl
theorem idx_azn (s : Bs) : ∀ (f pos : Nat), s.length - pos ≤ f → pos ≤ s.length → decide (0 ≤ Lib.idxFuncFrom notN true ⟨s.toArray⟩ f pos) = !((s.drop pos).all azn)
  | 0, pos, h, hp => by
    rw [List.drop_of_length_le (by omega)]; rfl
  | f + 1, pos, h, hp => by
    unfold Lib.idxFuncFrom
    have hsz : (⟨s.toArray⟩ : ByteArray).size = s.length := rfl
    by_cases hlt : pos < s.length
    · rw [if_pos (by rw [hsz]; exact hlt), List.drop_eq_getElem_cons hlt, List.all_cons]
      by_cases ha : s[pos].toNat < 128
      · have hd := decode_ascii ⟨s.toArray⟩ pos (by rw [hsz]; exact hlt) (by rw [get_at s pos hlt]; exact ha)
        rw [hd, get_at s pos hlt]
        simp only
        rw [notN_azn]
        cases hz : azn s[pos]
        · simp
        · have ih := idx_azn s f (pos + 1) (by omega) (by omega)
          simp only [Bool.not_true, Bool.true_and]
          rw [← ih]
          simp
      · have hd := decode_high ⟨s.toArray⟩ pos (by rw [hsz]; exact hlt) (by rw [get_at s pos hlt]; omega)
        rw [notN_high _ hd.1]
        have : azn s[pos] = false := by
          cases hz : azn s[pos]
          · rfl
          · exact absurd (azn_low hz) ha
        rw [this]
        simp
    · rw [if_neg (by rw [hsz]; exact hlt), List.drop_of_length_le (by omega)]; rfl
theorem name_eq (s : Bs) : nameP s = rname s := by
  cases s with
  | nil => rfl
  | cons c r =>
    show (inn (r.length + 1 : Nat) 1 12 && (inn c.toNat 97 122 && !decide (0 ≤ Lib.idxFunc notN true ⟨(c :: r).toArray⟩))) = (decide (r.length + 1 ≤ 12) && !decide ((c.toNat : Int) < 97) && !decide ((c.toNat : Int) > 122) && (c :: r).all azn)
    have := idx_azn (c :: r) (c :: r).length 0 (by omega) (by omega)
    rw [List.drop_zero] at this
    have e : Lib.idxFunc notN true ⟨(c :: r).toArray⟩ = Lib.idxFuncFrom notN true ⟨(c :: r).toArray⟩ (c :: r).length 0 := rfl
    rw [e, this, Bool.not_not]
    generalize (c :: r).all azn = z
    unfold inn
    rw [Bool.eq_iff_iff]
    cases z
    · simp
    · simp
      omega
end Go.AL
end
section
namespace Go.AL
open Go Go.Proofs
def dgt (c : UInt8) : Bool := decide (48 ≤ c.toNat) && decide (c.toNat ≤ 57)
def dvA (a : Nat) (l : Bs) : Nat := l.foldl (fun n c => n * 10 + (c.toNat - 48)) a
theorem dvA_ge (l : Bs) : ∀ a, a ≤ dvA a l := by
  induction l with
  | nil => intro a; exact Nat.le_refl _
  | cons c r ih => intro a; have := ih (a * 10 + (c.toNat - 48)); simp only [dvA, List.foldl_cons] at this ⊢; omega
theorem dvA_snoc (a : Nat) (l : Bs) (c : UInt8) : dvA a (l ++ [c]) = dvA a l * 10 + (c.toNat - 48) := by simp [dvA]
theorem parse_dv : ∀ (l : Bs) (a : Nat), l.all dgt = true → dvA a l < 10000000000000000000 → Lib.parseUint10 a l = .ok (dvA a l)
  | [], a, _, _ => rfl
  | c :: r, a, h, hb => by
    rw [List.all_cons, Bool.and_eq_true] at h
    have hc := h.1
    unfold dgt at hc
    simp at hc
    have hge := dvA_ge r (a * 10 + (c.toNat - 48))
    have e : dvA a (c :: r) = dvA (a * 10 + (c.toNat - 48)) r := rfl
    rw [e] at hb ⊢
    rw [Lib.parseUint10, if_pos hc, if_neg (by omega), if_neg (by omega)]
    exact parse_dv r _ h.2 hb
theorem dgt_of (u : Nat) (h : u < 10) : dgt (UInt8.ofNat (48 + u)) = true ∧ (UInt8.ofNat (48 + u)).toNat = 48 + u := by
  have e : (UInt8.ofNat (48 + u)).toNat = 48 + u := by rw [UInt8.toNat_ofNat']; omega
  refine ⟨?_, e⟩
  unfold dgt
  rw [e]
  simp
  omega
theorem dd_all : ∀ u, (Lib.decDigits u).all dgt = true := by
  intro u
  induction u using Nat.strongRecOn with
  | _ u ih =>
    rw [Lib.decDigits]
    split
    · rename_i h
      simp only [List.all_cons, List.all_nil, (dgt_of u h).1, Bool.and_self]
    · rename_i h
      rw [List.all_append, ih (u / 10) (by omega)]
      simp only [List.all_cons, List.all_nil, (dgt_of (u % 10) (by omega)).1, Bool.and_self]
theorem dd_val : ∀ u, dvA 0 (Lib.decDigits u) = u := by
  intro u
  induction u using Nat.strongRecOn with
  | _ u ih =>
    rw [Lib.decDigits]
    split
    · rename_i h
      show 0 * 10 + ((UInt8.ofNat (48 + u)).toNat - 48) = u
      rw [(dgt_of u h).2]
      omega
    · rename_i h
      rw [dvA_snoc, ih (u / 10) (by omega), (dgt_of (u % 10) (by omega)).2]
      omega
theorem dd_ne (u : Nat) : Lib.decDigits u ≠ [] := by
  rw [Lib.decDigits]; split <;> simp
theorem dgt_back {c : UInt8} (h : dgt c = true) : UInt8.ofNat (48 + (c.toNat - 48)) = c ∧ c.toNat - 48 < 10 := by
  unfold dgt at h
  simp at h
  refine ⟨?_, by omega⟩
  rw [show 48 + (c.toNat - 48) = c.toNat from by omega]
  exact UInt8.ofNat_toNat
theorem dd_canon : ∀ (n : Nat) (l : Bs), l.length = n → l ≠ [] → l.all dgt = true → (l.head? = some 48 → l.length = 1) → Lib.decDigits (dvA 0 l) = l := by
  intro n
  induction n with
  | zero => intro l h hne; exact absurd (List.length_eq_zero_iff.1 h) hne
  | succ n ih =>
    intro l h hne ha hh
    obtain ⟨i, c, rfl⟩ : ∃ i c, l = i ++ [c] := ⟨l.dropLast, l.getLast hne, (List.dropLast_concat_getLast hne).symm⟩
    rw [List.all_append, Bool.and_eq_true] at ha
    have hc : dgt c = true := by simpa using ha.2
    obtain ⟨hb, hl⟩ := dgt_back hc
    rw [dvA_snoc]
    cases i with
    | nil =>
      rw [show dvA 0 [] * 10 + (c.toNat - 48) = c.toNat - 48 from by simp [dvA], Lib.decDigits_one hl, hb]; rfl
    | cons b t =>
      have h48 : b ≠ 48 := fun e => by
        have := hh (by simp [e])
        simp at this
      have e := ih (b :: t) (by simpa using h) (by simp) ha.1 (fun e => absurd (by simpa using e) h48)
      have hp : 1 ≤ dvA 0 (b :: t) := by
        rcases Nat.eq_zero_or_pos (dvA 0 (b :: t)) with h0 | h0
        · rw [h0, Lib.decDigits_one (by omega)] at e
          injection e with e1 e2
          exact absurd (by rw [← e1]; rfl) h48
        · exact h0
      rw [Lib.decDigits, dif_neg (by omega)]
      rw [show (dvA 0 (b :: t) * 10 + (c.toNat - 48)) / 10 = dvA 0 (b :: t) from by omega, show (dvA 0 (b :: t) * 10 + (c.toNat - 48)) % 10 = c.toNat - 48 from by omega, e, hb]
theorem dd_head : ∀ u, (Lib.decDigits u).head? = some 48 → u = 0 := by
  intro u
  induction u using Nat.strongRecOn with
  | _ u ih =>
    intro h
    rw [Lib.decDigits] at h
    split at h
    · rename_i h1
      have e := (dgt_of u h1).2
      rw [List.head?_cons] at h
      injection h with h
      rw [h] at e
      have : (48 : UInt8).toNat = 48 := rfl
      omega
    · rename_i h1
      have hne := dd_ne (u / 10)
      cases hd : Lib.decDigits (u / 10) with
      | nil => exact absurd hd hne
      | cons a t =>
        rw [hd] at h
        have := ih (u / 10) (by omega) (by rw [hd]; simpa using h)
        omega
end Go.AL
end
section
namespace Go.AL
open Go Go.Proofs
def chk : List Bs → List Bs
  | [] => []
  | [h] => if h = [] then [] else [h]
  | h :: g :: t => (h ++ [10]) :: chk (g :: t)
theorem chunks_eq : ∀ s, chunks s = chk (cuts 10 s)
  | [] => rfl
  | c :: r => by
    have ih := chunks_eq r
    have hne := cuts_ne 10 r
    rw [chunks, cuts]
    by_cases hc : c = 10
    · rw [if_pos hc, if_pos hc, ih]
      cases hk : cuts 10 r with
      | nil => exact absurd hk hne
      | cons a t => rfl
    · rw [if_neg hc, if_neg hc]
      cases hk : cuts 10 r with
      | nil => exact absurd hk hne
      | cons a t =>
        rw [hk] at ih
        rw [ih]
        cases t with
        | nil =>
          cases a with
          | nil => simp [chk, consH]
          | cons x y => simp [chk, consH]
        | cons b u => simp [chk, consH]
end Go.AL
end
section
namespace Go.AL
open Go Go.Proofs
theorem isDig_dgt (c : UInt8) : isDig c = dgt c := by
  unfold isDig dgt
  rw [Bool.eq_iff_iff]
  simp
  omega
theorem dsum_dv : ∀ (l : Bs) (a : Nat), l.all dgt = true → l.foldl (fun n c => 10 * n + ((c.toNat : Int) - 48)) (a : Int) = (dvA a l : Int)
  | [], a, _ => rfl
  | c :: r, a, h => by
    rw [List.all_cons, Bool.and_eq_true] at h
    have hc := h.1
    unfold dgt at hc
    simp at hc
    have ih := dsum_dv r (a * 10 + (c.toNat - 48)) h.2
    rw [List.foldl_cons, show (10 * (a : Int) + ((c.toNat : Int) - 48)) = ((a * 10 + (c.toNat - 48) : Nat) : Int) from by omega, ih]
    rfl
theorem dsum_all (l : Bs) (h : l.all dgt = true) : dsum l l.length = (dvA 0 l : Int) := by
  unfold dsum
  rw [List.take_length]
  exact dsum_dv l 0 h
theorem dd_len : ∀ (k u : Nat), u < 10 ^ (k + 1) → (Lib.decDigits u).length ≤ k + 1
  | 0, u, h => by rw [Lib.decDigits_one (by omega)]; simp
  | k + 1, u, h => by
    rw [Lib.decDigits]
    split
    · simp
    · have := dd_len k (u / 10) (by rw [Nat.pow_succ] at h; omega)
      rw [List.length_append]
      simp
      omega
def can (s : Bs) (v : Int) : Prop := s = Lib.itoa v ∧ -1000000000 ≤ v ∧ v ≤ 1000000000
theorem dd_first (u : Nat) : ∃ c r, Lib.decDigits u = c :: r ∧ dgt c = true := by
  cases hd : Lib.decDigits u with
  | nil => exact absurd hd (dd_ne u)
  | cons c r =>
    have := dd_all u
    rw [hd, List.all_cons, Bool.and_eq_true] at this
    exact ⟨c, r, rfl, this.1⟩
theorem mag_dd (u : Nat) (h : u ≤ 1000000000) : Lib.parseMag (Lib.decDigits u) = .ok u := by
  unfold Lib.parseMag
  rw [if_neg (dd_ne u), parse_dv _ 0 (dd_all u) (by rw [dd_val]; omega), dd_val]
theorem atoi_itoa (v : Int) (h1 : -1000000000 ≤ v) (h2 : v ≤ 1000000000) : Lib.atoiAll (Lib.itoa v) = .ok v := by
  unfold Lib.itoa
  by_cases hv : v < 0
  · rw [if_pos hv]
    unfold Lib.atoiAll
    have : (45 : UInt8).toNat = 45 := rfl
    simp only [this, or_true, if_true, mag_dd v.natAbs (by omega)]
    rw [if_neg (by omega), if_neg (by omega)]
    congr 1
    omega
  · rw [if_neg hv]
    have hm := mag_dd v.toNat (by omega)
    obtain ⟨c, r, e, hc⟩ := dd_first v.toNat
    unfold dgt at hc
    simp at hc
    rw [e] at hm ⊢
    unfold Lib.atoiAll
    simp only
    rw [if_neg (by omega), hm]
    simp only
    rw [if_neg (by omega), if_neg (by omega), if_neg (by omega)]
    congr 1
    omega
theorem numOk_can {s : Bs} {v : Int} (h : can s v) : numOk s = true ∧ numV s = v := by
  obtain ⟨rfl, h1, h2⟩ := h
  unfold numOk numV
  rw [atoi_itoa v h1 h2]
  simp [inn, h1, h2]
theorem can_numOk {s : Bs} (h : numOk s = true) : can s (numV s) := by
  unfold numOk at h
  unfold numV
  cases ha : Lib.atoiAll s with
  | ok v =>
    rw [ha] at h
    simp [inn] at h
    exact ⟨h.1.symm, h.2.1, h.2.2⟩
  | «syntax» => rw [ha] at h; cases h
  | range => rw [ha] at h; cases h
end Go.AL
end
section
namespace Go.AL
open Go Go.Proofs
theorem rnumT_dd (bl : Bool) (u : Nat) (h : u ≤ 1000000000) (hb : bl = true → 1 ≤ u) : rnumT bl (Lib.decDigits u) = (cond bl (0 - (u : Int)) u, true) := by
  have hl := dd_len 9 u (by omega)
  have ha := dd_all u
  have hv := dsum_all _ ha
  rw [dd_val] at hv
  have hh := dd_head u
  cases hd : Lib.decDigits u with
  | nil => exact absurd hd (dd_ne u)
  | cons c r =>
    rw [hd] at hl ha hv hh
    have ha2 : (c :: r).all isDig = true := by rw [← ha]; congr 1; funext x; exact isDig_dgt x
    simp only [List.length_cons] at hl hv
    have h0 : (decide (r.length + 1 > 10) || (decide (c = 48) && (decide (r.length + 1 > 1) || bl))) = false := by
      have e1 : decide (r.length + 1 > 10) = false := by simp; omega
      rw [e1, Bool.false_or]
      by_cases hc : c = 48
      · have hu := hh (by rw [hc]; rfl)
        have hbf : bl = false := by cases bl; · rfl
                                    · have := hb rfl; omega
        rw [hu, Lib.decDigits_one (by omega)] at hd
        injection hd with _ hr
        rw [← hr, hbf]
        simp
      · rw [decide_eq_false hc]; rfl
    show cond (decide (r.length + 1 > 10) || (decide (c = 48) && (decide (r.length + 1 > 1) || bl))) (0, false) (cond ((c :: r).all isDig) (cond (decide (dsum (c :: r) (r.length + 1) > 1000000000)) (0, false) (cond bl (0 - dsum (c :: r) (r.length + 1)) (dsum (c :: r) (r.length + 1)), true)) (0, false)) = _
    have e2 : decide ((u : Int) > 1000000000) = false := by simp; omega
    rw [h0, ha2, hv, e2]
    rfl
theorem rnumT_back {bl : Bool} {t : Bs} (h : (rnumT bl t).2 = true) : ∃ u : Nat, t = Lib.decDigits u ∧ u ≤ 1000000000 ∧ (bl = true → 1 ≤ u) := by
  cases t with
  | nil => exact absurd h (by simp [rnumT])
  | cons c r =>
    unfold rnumT at h
    simp only at h
    cases h0 : (decide (r.length + 1 > 10) || (decide (c = 48) && (decide (r.length + 1 > 1) || bl))) with
    | true => rw [h0] at h; exact absurd h (by simp)
    | false =>
      rw [h0] at h
      simp only [cond_false] at h
      cases ha2 : (c :: r).all isDig with
      | false => rw [ha2] at h; exact absurd h (by simp)
      | true =>
        rw [ha2] at h
        simp only [cond_true] at h
        have ha : (c :: r).all dgt = true := by rw [← ha2]; congr 1; funext x; exact (isDig_dgt x).symm
        have hv := dsum_all _ ha
        simp only [List.length_cons] at hv
        rw [hv] at h
        have hle : dvA 0 (c :: r) ≤ 1000000000 := by
          by_cases hq : (dvA 0 (c :: r) : Int) > 1000000000
          · rw [decide_eq_true hq] at h; exact absurd h (by simp)
          · omega
        rw [Bool.or_eq_false_iff] at h0
        have e := dd_canon _ (c :: r) rfl (by simp) ha (fun e => by
          rw [List.head?_cons] at e
          injection e with e
          have := h0.2
          rw [decide_eq_true e] at this
          simp at this
          simp [this.1])
        refine ⟨dvA 0 (c :: r), e.symm, hle, fun hb => ?_⟩
        rcases Nat.eq_zero_or_pos (dvA 0 (c :: r)) with hz | hz
        · rw [hz, Lib.decDigits_one (by omega)] at e
          injection e with e1 e2
          have := h0.2
          rw [hb, ← e1, Bool.or_true, Bool.and_true] at this
          exact absurd this (by decide)
        · exact hz
theorem rnum_can {s : Bs} {v : Int} (h : can s v) : rnum s = (v, true) := by
  obtain ⟨rfl, h1, h2⟩ := h
  unfold Lib.itoa
  by_cases hv : v < 0
  · rw [if_pos hv]
    show rnumT true (Lib.decDigits v.natAbs) = _
    rw [rnumT_dd true _ (by omega) (fun _ => by omega)]
    simp only [cond_true]
    congr 1
    omega
  · rw [if_neg hv]
    have e := rnumT_dd false v.toNat (by omega) (fun h => by cases h)
    obtain ⟨c, r, hd, hc⟩ := dd_first v.toNat
    rw [hd] at e ⊢
    have h45 : ¬ c = 45 := fun e => by rw [e] at hc; exact absurd hc (by decide)
    show cond (decide (c = 45)) (rnumT true r) (rnumT false (c :: r)) = _
    rw [decide_eq_false h45]
    simp only [cond_false]
    rw [e]
    simp only [cond_false]
    congr 1
    omega
theorem can_rnum {s : Bs} (h : (rnum s).2 = true) : ∃ v, can s v := by
  cases s with
  | nil => exact absurd h (by simp [rnum])
  | cons c r =>
    have e : rnum (c :: r) = cond (decide (c = 45)) (rnumT true r) (rnumT false (c :: r)) := rfl
    rw [e] at h
    by_cases hc : c = 45
    · rw [decide_eq_true hc] at h
      obtain ⟨u, hu, hl, hp⟩ := rnumT_back h
      have := hp rfl
      refine ⟨-(u : Int), ?_, by omega, by omega⟩
      rw [hc, hu, Lib.itoa, if_pos (by omega)]
      congr 2
      omega
    · rw [decide_eq_false hc] at h
      simp only [cond_false] at h
      obtain ⟨u, hu, hl, hp⟩ := rnumT_back h
      refine ⟨(u : Int), ?_, by omega, by omega⟩
      rw [hu, Lib.itoa, if_neg (by omega)]
      congr 1
theorem rdN_eq (s : Bs) : rdN s = ropN s := by
  unfold rdN ropN
  cases h : numOk s with
  | true => rw [rnum_can (can_numOk h)]
  | false =>
    cases h2 : (rnum s).2 with
    | false => rfl
    | true =>
      obtain ⟨v, hv⟩ := can_rnum h2
      rw [(numOk_can hv).1] at h
      cases h
end Go.AL
end
section
namespace Go.AL
open Go Go.Proofs
theorem suf1 (l : Bs) (c : UInt8) : Lib.hasSuffix l [c] = match l.getLast? with | some d => decide (d = c) | none => false := by
  rcases List.eq_nil_or_concat l with rfl | ⟨i, d, rfl⟩
  · rfl
  · rw [List.concat_eq_append, List.getLast?_concat]
    rw [Bool.eq_iff_iff]
    show [c].isSuffixOf (i ++ [d]) = true ↔ decide (d = c) = true
    rw [List.isSuffixOf_iff_suffix, decide_eq_true_iff]
    constructor
    · rintro ⟨t, ht⟩
      have := List.append_inj' ht rfl
      have := this.2
      simp at this
      exact this.symm
    · rintro rfl
      exact ⟨i, rfl⟩
theorem bare_end (l : Bs) : bare (l ++ [10]) = l := by
  unfold bare Lib.trimSuffix
  rw [suf1, List.getLast?_concat]
  simp
theorem ended_end (l : Bs) : ended (l ++ [10]) = true := by
  unfold ended
  rw [suf1, List.getLast?_concat]
  simp
theorem isLab_eq (l : Bs) : isLab l = rlab l := by
  unfold isLab rlab
  exact suf1 l 58
theorem labName_eq (l : Bs) (h : rlab l = true) : labName l = l.dropLast ∧ l = l.dropLast ++ [58] := by
  have h1 := isLab_eq l
  rw [h] at h1
  unfold isLab at h1
  unfold labName Lib.trimSuffix
  rw [if_pos h1]
  refine ⟨by rw [List.dropLast_eq_take]; rfl, ?_⟩
  unfold rlab at h
  rcases List.eq_nil_or_concat l with rfl | ⟨i, d, rfl⟩
  · cases h
  · rw [List.concat_eq_append, List.getLast?_concat] at h
    have : d = 58 := by simpa using h
    simp [this]
theorem rlab_end (w : Bs) : rlab (w ++ [58]) = true := by
  unfold rlab
  rw [List.getLast?_concat]; rfl
theorem cuts_no (c : UInt8) : ∀ s, ∀ l ∈ cuts c s, c ∉ l
  | [], l, h => by
    have : l = [] := by simpa [cuts] using h
    rw [this]; simp
  | b :: r, l, h => by
    have ih := cuts_no c r
    rw [cuts] at h
    by_cases hb : b = c
    · rw [if_pos hb] at h
      rcases List.mem_cons.1 h with rfl | h
      · simp
      · exact ih l h
    · rw [if_neg hb] at h
      cases hk : cuts c r with
      | nil => exact absurd hk (cuts_ne c r)
      | cons a t =>
        rw [hk] at h ih
        simp only [consH] at h
        rcases List.mem_cons.1 h with rfl | h
        · intro hc
          rcases List.mem_cons.1 hc with e | hc
          · exact hb e.symm
          · exact ih a (by simp) hc
        · exact ih l (List.mem_cons_of_mem _ h)
theorem no_end {l : Bs} (h : (10 : UInt8) ∉ l) : ended l = false ∧ bare l = l := by
  have e : Lib.hasSuffix l [10] = false := by
    rw [suf1]
    cases hg : l.getLast? with
    | none => rfl
    | some d =>
      have := List.mem_of_getLast? hg
      have : ¬ d = 10 := fun e => h (e ▸ this)
      simp [this]
  refine ⟨e, ?_⟩
  unfold bare Lib.trimSuffix
  rw [e]; rfl
theorem chk_eq : ∀ (ls : List Bs) (x : Bs), chk (ls ++ [x]) = ls.map (· ++ [10]) ++ (if x = [] then [] else [x])
  | [], x => by simp [chk]
  | [l], x => by simp [chk]
  | l :: g :: t, x => by
    have ih := chk_eq (g :: t) x
    simp only [List.cons_append] at ih ⊢
    rw [chk, ih]
    simp
theorem lines_split (s : Bs) : ∃ x, rsplit 10 s = rlines s ++ [x] ∧ chunks s = (rlines s).map (· ++ [10]) ++ (if x = [] then [] else [x]) ∧ (10 : UInt8) ∉ x := by
  have hne := cuts_ne 10 s
  refine ⟨(cuts 10 s).getLast hne, ?_, ?_, ?_⟩
  · unfold rlines
    rw [rsplit_eq, List.dropLast_concat_getLast]
  · rw [chunks_eq]
    unfold rlines
    rw [rsplit_eq]
    rw [← chk_eq, List.dropLast_concat_getLast]
  · exact cuts_no 10 s _ (List.getLast_mem hne)
theorem lab_inv (ls : List Bs) : ∀ k, k ≤ ls.length → (labSt (ls.map (· ++ [10])) k).2 = nl ls k ∧ ∀ w, (labSt (ls.map (· ++ [10])) k).1.lookup w = ((ls.take k).findIdx? (fun l => decide (l = w ++ [58]))).map (nl ls)
  | 0, _ => ⟨by simp [labSt, nl], fun w => by simp [labSt]⟩
  | k + 1, h => by
    obtain ⟨ih1, ih2⟩ := lab_inv ls k (by omega)
    have hk : k < ls.length := by omega
    have hkm : k < (ls.map (· ++ [10])).length := by simpa using hk
    rw [labSt_succ hkm]
    have hg : (ls.map (· ++ [10]))[k] = ls[k] ++ [10] := by simp
    rw [hg]
    generalize labSt (ls.map (· ++ [10])) k = st at *
    obtain ⟨m, n⟩ := st
    simp only at ih1 ih2
    unfold stepL
    rw [bare_end, ended_end, isLab_eq, nl_succ hk, ih1]
    refine ⟨rfl, fun w => ?_⟩
    have hw := ih2 w
    rw [List.take_succ_eq_append_getElem hk, List.findIdx?_append]
    have hlen : (ls.take k).length = k := by rw [List.length_take]; omega
    rw [hlen]
    generalize (ls.take k).findIdx? (fun l => decide (l = w ++ [58])) = q at *
    simp only [Bool.true_and]
    cases hr : rlab ls[k] with
    | false =>
      have hn : ¬ ls[k] = w ++ [58] := fun e => by rw [e, rlab_end] at hr; cases hr
      simp only [Bool.false_and, cond_false, List.findIdx?_cons, List.findIdx?_nil, decide_eq_false hn]
      rw [hw]
      cases q <;> simp
    | true =>
      obtain ⟨hd, hl⟩ := labName_eq ls[k] hr
      have hp : decide (ls[k] = w ++ [58]) = decide (labName ls[k] = w) := by
        rw [hd]
        by_cases e : ls[k].dropLast = w
        · rw [decide_eq_true e, decide_eq_true]
          rw [← e]; exact hl
        · rw [decide_eq_false e, decide_eq_false]
          intro e2
          apply e
          rw [e2]; simp
      simp only [Bool.true_and, List.findIdx?_cons, List.findIdx?_nil, hp]
      generalize labName ls[k] = d at *
      by_cases e : d = w
      · subst e
        simp only [decide_true]
        cases q with
        | some i => rw [hw]; simp [hw]
        | none =>
          rw [hw]
          simp only [Option.map_none, Option.isSome_none, Bool.not_false, cond_true]
          rw [List.lookup_append, hw]
          simp [List.lookup]
      · have e2 : (w == d) = false := by simp; exact fun h => e h.symm
        simp only [decide_eq_false e]
        cases (m.lookup d).isSome
        · simp only [Bool.not_false, cond_true]
          rw [List.lookup_append, hw]
          cases q <;> simp [List.lookup, e2]
        · simp only [Bool.not_true, cond_false]
          rw [hw]
          cases q <;> simp
end Go.AL
end
section
namespace Go.AL
open Go Go.Proofs
theorem labels_look (s w : Bs) : (labels s).lookup w = ((rlines s).findIdx? (fun l => decide (l = w ++ [58]))).map (nl (rlines s)) := by
  obtain ⟨x, _, hc, hx⟩ := lines_split s
  have hi := (lab_inv (rlines s) (rlines s).length (Nat.le_refl _)).2 w
  rw [List.take_length] at hi
  rw [← hi]
  unfold labels labSt
  rw [hc, List.take_length]
  have hl : ((rlines s).map (· ++ [10])).take (rlines s).length = (rlines s).map (· ++ [10]) := List.take_of_length_le (by simp)
  rw [hl]
  by_cases h : x = []
  · rw [if_pos h, List.append_nil]
  · rw [if_neg h, List.foldl_append]
    generalize List.foldl stepL ([], 0) ((rlines s).map (· ++ [10])) = st
    show (stepL st x).1.lookup w = _
    unfold stepL
    rw [(no_end hx).1]
    rfl
theorem rdT_eq (s w : Bs) : rdT (labels s) w = ropT (rlines s) w := by
  unfold rdT ropT rtarget
  rw [name_eq, labels_look]
  cases (rlines s).findIdx? (fun l => decide (l = w ++ [58])) <;> rfl
theorem rd_eq (s : Bs) (c : UInt8) (w : Bs) : rd (labels s) c w = rop (rlines s) c w := by
  unfold rd rop
  rw [rdN_eq, rdT_eq]
theorem rdAll_eq (s : Bs) : ∀ (kd : Bs) (ws : List Bs), rdAll (labels s) kd ws = rAll (rlines s) kd ws
  | [], _ => rfl
  | _ :: _, [] => rfl
  | c :: cs, w :: ws => by
    rw [rdAll, rAll, rd_eq, rdAll_eq s cs ws]
theorem words_eq (l : Bs) : words l = rsplit 32 l := by
  unfold words
  rw [split_eq, rsplit_eq]
theorem instr_eq (s l : Bs) (n : Int) : rinstr (rlines s) l n = cond (decide ((instrP (labels s) l).2 = 0)) (cond (decide (n ≥ 1000)) (default, 2) (instrP (labels s) l)) (instrP (labels s) l) := by
  cases hw : rsplit 32 l with
  | nil =>
    have e1 : instrP (labels s) l = (default, 10) := by unfold instrP; rw [words_eq, hw]
    have e2 : rinstr (rlines s) l n = (default, 10) := by unfold rinstr; rw [hw]
    rw [e1, e2]; rfl
  | cons w ws =>
    have e1 : instrP (labels s) l = cond (decide (findOp w < 0)) (default, 10) (instrK (labels s) (findOp w) (at' opsT (findOp w)).2 ws) := by unfold instrP; rw [words_eq, hw]
    have e2 : rinstr (rlines s) l n = cond (decide (findOp w < 0)) (default, 10) (rinstrK (rlines s) (findOp w) (at' opK (findOp w)) ws n) := by unfold rinstr; rw [hw]
    rw [e1, e2]
    rcases findOp_cases w with h | ⟨k, hk, h⟩
    · rw [h]; rfl
    · have h0 : decide ((k : Int) < 0) = false := by simp
      rw [h, h0, opK_at k hk]
      simp only [cond_false]
      unfold rinstrK instrK
      rw [rdAll_eq]
      cases decide (ws.length = (at' opsT (k : Int)).2.length) with
      | false => rfl
      | true =>
        simp only [cond_true]
        by_cases hz : (rAll (rlines s) (at' opsT (k : Int)).2 ws).2 = 0
        · rw [hz]; simp
        · simp [hz]
theorem instr_lt (s l : Bs) (n : Nat) (h : (rinstr (rlines s) l n).2 = 0) : n < 1000 ∧ rinstr (rlines s) l n = instrP (labels s) l := by
  rw [instr_eq] at h ⊢
  by_cases h0 : (instrP (labels s) l).2 = 0
  · rw [decide_eq_true h0] at h ⊢
    simp only [cond_true] at h ⊢
    by_cases hn : (n : Int) ≥ 1000
    · rw [decide_eq_true hn] at h
      simp only [cond_true] at h
      exact absurd h (by decide)
    · rw [decide_eq_false hn]
      exact ⟨by omega, rfl⟩
  · rw [decide_eq_false h0] at h
    exact absurd h h0
theorem bad1_inv {e : Nat → Int} : ∀ {n : Nat}, (bad1 e n = none → ∀ q, q < n → e q = 0) ∧ (∀ k, bad1 e n = some k → k < n ∧ (∀ q, q < k → e q = 0) ∧ e k ≠ 0)
  | 0 => ⟨fun _ q h => absurd h (by omega), fun k h => by cases h⟩
  | n + 1 => by
    obtain ⟨i1, i2⟩ := bad1_inv (e := e) (n := n)
    rw [bad1]
    cases hb : bad1 e n with
    | some k =>
      refine ⟨fun h => (by cases h), fun q h => ?_⟩
      injection h with h
      subst h
      obtain ⟨a, b, c⟩ := i2 _ hb
      exact ⟨by omega, b, c⟩
    | none =>
      have i1 := i1 hb
      by_cases h0 : e n = 0
      · rw [decide_eq_true h0]
        refine ⟨fun _ q hq => ?_, fun k h => (by cases h)⟩
        by_cases e : q = n
        · rw [e]; exact h0
        · exact i1 q (by omega)
      · rw [decide_eq_false h0]
        refine ⟨fun h => (by cases h), fun k h => ?_⟩
        injection h with h
        subst h
        exact ⟨by omega, i1, h0⟩
def PInv (s : Bs) (k : Nat) : Prop :=
  (pSt (labels s) (chunks s) k).2 = rpSt (rlines s) k ∧ (rpSt (rlines s) k).length ≤ 1000 ∧ (∀ b, 0 ≤ cnt (pSt (labels s) (chunks s) k).1 b) ∧ ∀ b, decide (cnt (pSt (labels s) (chunks s) k).1 b + 1 > 1) = ((rlines s).take k).any fun l => decide (l = b)
theorem chunk_at (s : Bs) {k : Nat} (h : k < (rlines s).length) : ∃ h2 : k < (chunks s).length, (chunks s)[k] = (rlines s)[k] ++ [10] := by
  obtain ⟨x, _, hc, _⟩ := lines_split s
  have h2 : k < (chunks s).length := by rw [hc]; simp; omega
  refine ⟨h2, ?_⟩
  have : (chunks s)[k]? = some ((rlines s)[k] ++ [10]) := by
    rw [hc, List.getElem?_append_left (by simpa using h)]
    simp [h]
  rw [List.getElem?_eq_getElem h2] at this
  injection this
theorem rpE_eq (s : Bs) {k : Nat} (h : k < (rlines s).length) (hi : PInv s k) : pE (labels s) (chunks s) k = rpE (rlines s) k := by
  obtain ⟨h2, hc⟩ := chunk_at s h
  obtain ⟨i1, i2, _, i3⟩ := hi
  unfold pE rpE
  rw [List.getElem?_eq_getElem h2, hc]
  simp only
  have hg : (rlines s).getD k [] = (rlines s)[k] := by simp [List.getD, h]
  rw [hg]
  unfold lineE
  rw [bare_end, ended_end, isLab_eq, i3, i1]
  cases hr : rlab (rlines s)[k] with
  | true =>
    obtain ⟨hd, _⟩ := labName_eq _ hr
    rw [hd, name_eq]
    cases rname (rlines s)[k].dropLast <;> simp
  | false =>
    have e : decide ((rpSt (rlines s) k).length = 1000) = decide (((rpSt (rlines s) k).length : Int) ≥ 1000) := by
      by_cases h3 : (rpSt (rlines s) k).length = 1000
      · rw [decide_eq_true h3, decide_eq_true (by omega)]
      · rw [decide_eq_false h3, decide_eq_false (by omega)]
    rw [instr_eq, e]
    simp only [Bool.not_true, Bool.false_and, Bool.or_false, cond_false]
    by_cases h0 : (instrP (labels s) (rlines s)[k]).2 = 0
    · rw [decide_eq_true h0]
      simp only [cond_true]
      cases decide (((rpSt (rlines s) k).length : Int) ≥ 1000)
      · exact h0.symm
      · rfl
    · rw [decide_eq_false h0]
      rfl
theorem inv_all (s : Bs) : ∀ k, k ≤ (rlines s).length → (∀ q, q < k → rpE (rlines s) q = 0) → PInv s k
  | 0, _, _ => ⟨rfl, by simp [rpSt], fun b => by simp [pSt, cnt], fun b => by simp [pSt, cnt]⟩
  | k + 1, hk, hz => by
    have ih := inv_all s k (by omega) (fun q hq => hz q (by omega))
    have h : k < (rlines s).length := by omega
    have hE := hz k (by omega)
    obtain ⟨h2, hc⟩ := chunk_at s h
    obtain ⟨i1, i2, i0, i3⟩ := ih
    have hg : (rlines s).getD k [] = (rlines s)[k] := by simp [List.getD, h]
    unfold PInv
    rw [pSt_succ h2, hc, bare_end, rpSt_succ h]
    have hcd : lineC (labels s) (pSt (labels s) (chunks s) k).2 ((rlines s)[k] ++ [10]) = cond (rlab (rlines s)[k]) (rpSt (rlines s) k) (rpSt (rlines s) k ++ [(rinstr (rlines s) (rlines s)[k] (rpSt (rlines s) k).length).1]) ∧ (cond (rlab (rlines s)[k]) (rpSt (rlines s) k) (rpSt (rlines s) k ++ [(rinstr (rlines s) (rlines s)[k] (rpSt (rlines s) k).length).1])).length ≤ 1000 := by
      unfold lineC
      unfold rpE at hE
      rw [hg] at hE
      rw [bare_end, isLab_eq, i1]
      cases hr : rlab (rlines s)[k] with
      | true => exact ⟨rfl, i2⟩
      | false =>
        rw [hr] at hE
        obtain ⟨hn, he⟩ := instr_lt s _ _ hE
        simp only [cond_false]
        rw [he]
        refine ⟨rfl, ?_⟩
        rw [List.length_append]; simp; omega
    refine ⟨hcd.1, hcd.2, fun b => ?_, fun b => ?_⟩
    · rw [bump_cnt]
      have a := i0 (rlines s)[k]; have c := i0 b
      cases decide ((rlines s)[k] = b) <;> simp <;> omega
    · rw [bump_cnt, List.take_succ_eq_append_getElem h, List.any_append, ← i3]
      have a := i0 (rlines s)[k]
      by_cases e : (rlines s)[k] = b
      · simp only [List.any_cons, List.any_nil, Bool.or_false, decide_eq_true e, cond_true, Bool.or_true, decide_eq_true_eq]
        omega
      · simp only [List.any_cons, List.any_nil, Bool.or_false, decide_eq_false e, cond_false]
theorem parse_eq (s : Bs) : parseP s = rparse s := by
  unfold parseP rparse
  by_cases h4 : s.length > 40000
  · rw [decide_eq_true h4]; rfl
  · rw [decide_eq_false h4]
    simp only [cond_false]
    have hcut : chunks s = chunks s := rfl
    obtain ⟨x, hs, hc, hx⟩ := lines_split s
    obtain ⟨b1, b2⟩ := bad1_inv (e := rpE (rlines s)) (n := (rlines s).length)
    have hlen : (chunks s).length = (rlines s).length + (if x = [] then [] else [x] : List Bs).length := by rw [hc]; simp
    have hlx : (rsplit 10 s).getLast? = some x := by rw [hs]; simp
    have hln : (rsplit 10 s).length = (rlines s).length + 1 := by rw [hs]; simp
    cases hb : bad1 (rpE (rlines s)) (rlines s).length with
    | some k =>
      obtain ⟨k1, k2, k3⟩ := b2 k hb
      have hz : ∀ q, q ≤ k → pE (labels s) (chunks s) q = rpE (rlines s) q := fun q hq =>
        rpE_eq s (by omega) (inv_all s q (by omega) (fun p hp => k2 p (by omega)))
      have hp : bad1 (pE (labels s) (chunks s)) (chunks s).length = some k :=
        bad1_some (fun q hq => by rw [hz q (by omega)]; exact k2 q hq) (by rw [hz k (by omega)]; exact k3) (by omega)
      rw [hp]
      simp only
      rw [hz k (by omega)]
    | none =>
      have b1 := b1 hb
      have hi := inv_all s (rlines s).length (Nat.le_refl _) b1
      have hz : ∀ q, q < (rlines s).length → pE (labels s) (chunks s) q = 0 := fun q hq => by
        rw [rpE_eq s hq (inv_all s q (by omega) (fun p hp => b1 p (by omega)))]; exact b1 q hq
      rw [hlx]
      by_cases h0 : x = []
      · have hn : (chunks s).length = (rlines s).length := by rw [hlen, if_pos h0]; rfl
        rw [bad1_none (fun q hq => hz q (by omega)), hn]
        simp only
        rw [hi.1, h0]
        rfl
      · have hn : (chunks s).length = (rlines s).length + 1 := by rw [hlen, if_neg h0]; rfl
        have he : pE (labels s) (chunks s) (rlines s).length = 12 := by
          unfold pE
          rw [hc, List.getElem?_append_right (by simp), if_neg h0]
          simp only [List.length_map, Nat.sub_self, List.getElem?_cons_zero]
          unfold lineE
          rw [(no_end hx).1]
          rfl
        rw [bad1_some (k := (rlines s).length) hz (by rw [he]; decide) (by omega)]
        simp only
        rw [he, hln]
        have : decide (some x = some ([] : Bs)) = false := by simp [h0]
        rw [this]
        simp
end Go.AL
end
section
namespace Go.AL
open Go Go.Proofs
theorem nl_left (l1 l2 : List Bs) {i : Nat} (h : i ≤ l1.length) : nl (l1 ++ l2) i = nl l1 i := by
  unfold nl
  rw [List.take_append_of_le_length h]
theorem nl_mono (ls : List Bs) {i j : Nat} (h : i ≤ j) : nl ls i ≤ nl ls j := by
  unfold nl
  have : (ls.take i) <+: (ls.take j) := List.take_prefix_take_left h
  have := (List.IsPrefix.filter (fun l => !rlab l) this).length_le
  omega
theorem rpSt_nl (ls : List Bs) : ∀ k, k ≤ ls.length → ((rpSt ls k).length : Int) = nl ls k
  | 0, _ => by simp [rpSt, nl]
  | k + 1, h => by
    have ih := rpSt_nl ls k (by omega)
    have hk : k < ls.length := by omega
    rw [rpSt_succ hk, nl_succ hk, ← ih]
    cases rlab ls[k] <;> simp
theorem rAll_inv (ls : List Bs) : ∀ (kd : Bs) (ws : List Bs), ws.length = kd.length → (rAll ls kd ws).2 = 0 → ∀ q, q < kd.length → (rop ls (kd.getD q 0) (ws.getD q [])).2 = 0
  | [], ws, _, _, q, hq => absurd hq (by simp)
  | c :: kd, [], h, _, _, _ => by simp at h
  | c :: kd, w :: ws, h, ha, q, hq => by
    rw [rAll] at ha
    by_cases h0 : (rop ls c w).2 = 0
    · rw [decide_eq_true h0] at ha
      simp only [cond_true] at ha
      cases q with
      | zero => simpa using h0
      | succ q => simpa using rAll_inv ls kd ws (by simpa using h) ha q (by simpa using hq)
    · rw [decide_eq_false h0] at ha
      exact absurd ha h0
theorem rAll_get {ls : List Bs} {kd : Bs} {ws : List Bs} (hl : ws.length = kd.length) (h : ∀ q, q < kd.length → (rop ls (kd.getD q 0) (ws.getD q [])).2 = 0) (q : Nat) :
    (rAll ls kd ws).1.getD q 0 = cond (decide (q < kd.length)) (rop ls (kd.getD q 0) (ws.getD q [])).1 0 := by
  by_cases hq : q < kd.length
  · rw [decide_eq_true hq]
    exact (rAll_ok ls kd ws hl h).2 q hq
  · rw [decide_eq_false hq]
    have := rAll_len ls kd ws
    rw [List.getD, List.getElem?_eq_none (by omega)]; rfl
def LineOk (ls : List Bs) (l : Bs) (k : Nat) (ws : List Bs) : Prop :=
  k < 27 ∧ (∃ w, rsplit 32 l = w :: ws ∧ findOp w = (k : Int)) ∧ ws.length = (at' opsT (k : Int)).2.length ∧ ∀ q, q < (at' opsT (k : Int)).2.length → (rop ls ((at' opsT (k : Int)).2.getD q 0) (ws.getD q [])).2 = 0
def insOf (ls : List Bs) (k : Nat) (ws : List Bs) : Ins :=
  ⟨k, (rAll ls (at' opsT (k : Int)).2 ws).1.getD 0 0, (rAll ls (at' opsT (k : Int)).2 ws).1.getD 1 0, (rAll ls (at' opsT (k : Int)).2 ws).1.getD 2 0⟩
theorem rinstr_of {ls : List Bs} {l : Bs} {k : Nat} {ws : List Bs} (h : LineOk ls l k ws) (n : Int) : rinstr ls l n = cond (decide (n ≥ 1000)) (default, 2) (insOf ls k ws, 0) := by
  obtain ⟨hk, ⟨w, hw, hf⟩, hl, ha⟩ := h
  unfold rinstr
  rw [hw]
  simp only
  have h0 : decide ((k : Int) < 0) = false := by simp
  rw [hf, h0, opK_at k hk]
  simp only [cond_false]
  unfold rinstrK
  rw [decide_eq_true hl, (rAll_ok ls _ ws hl ha).1]
  rfl
theorem rinstr_inv {ls : List Bs} {l : Bs} {n : Int} (h : (rinstr ls l n).2 = 0) : ∃ k ws, LineOk ls l k ws ∧ ¬ n ≥ 1000 ∧ rinstr ls l n = (insOf ls k ws, 0) := by
  have h' := h
  unfold rinstr at h
  cases hw : rsplit 32 l with
  | nil => rw [hw] at h; exact absurd h (by simp)
  | cons w ws =>
    rw [hw] at h
    simp only at h
    rcases findOp_cases w with hf | ⟨k, hk, hf⟩
    · rw [hf] at h; exact absurd h (by simp)
    · have h0 : decide ((k : Int) < 0) = false := by simp
      rw [hf, h0, opK_at k hk] at h
      simp only [cond_false] at h
      unfold rinstrK at h
      by_cases hl : ws.length = (at' opsT (k : Int)).2.length
      · rw [decide_eq_true hl] at h
        simp only [cond_true] at h
        by_cases hz : (rAll ls (at' opsT (k : Int)).2 ws).2 = 0
        · have hL : LineOk ls l k ws := ⟨hk, ⟨w, hw, hf⟩, hl, rAll_inv ls _ ws hl hz⟩
          have e := rinstr_of hL n
          by_cases hn : n ≥ 1000
          · rw [e, decide_eq_true hn] at h'; exact absurd h' (by simp)
          · rw [decide_eq_false hn] at e
            exact ⟨k, ws, hL, hn, e⟩
        · rw [decide_eq_false hz] at h
          exact absurd h hz
      · rw [decide_eq_false hl] at h
        exact absurd h (by simp)
theorem getD_at {ls : List Bs} {k : Nat} (h : k < ls.length) : ls.getD k [] = ls[k] := by simp [List.getD, h]
theorem rparse_good {s : Bs} (h : (rparse s).2.2 = 0) : s.length ≤ 40000 ∧ rsplit 10 s = rlines s ++ [[]] ∧ (∀ q, q < (rlines s).length → rpE (rlines s) q = 0) ∧ rparse s = (rpSt (rlines s) (rlines s).length, 0, 0) := by
  obtain ⟨x, hs, _, _⟩ := lines_split s
  have hlx : (rsplit 10 s).getLast? = some x := by rw [hs]; simp
  have h' := h
  unfold rparse at h ⊢
  by_cases h4 : s.length > 40000
  · rw [decide_eq_true h4] at h; exact absurd h (by simp)
  · rw [decide_eq_false h4] at h ⊢
    simp only [cond_false] at h ⊢
    cases hb : bad1 (rpE (rlines s)) (rlines s).length with
    | some k =>
      rw [hb] at h
      exact absurd h ((bad1_inv.2 k hb).2.2)
    | none =>
      rw [hb, hlx] at h
      by_cases hx1 : x = []
      · rw [hx1] at hs hlx
        exact ⟨by omega, hs, bad1_inv.1 hb, by rw [hlx]; rfl⟩
      · rw [decide_eq_false (by simpa using hx1)] at h
        exact absurd h (by simp)
end Go.AL
end
section
namespace Go.AL
open Go Go.Proofs
def bd (v : Int) : Prop := -1000000000 ≤ v ∧ v ≤ 1000000000
theorem bd_zero : bd 0 := ⟨by decide, by decide⟩
theorem ropN_bd (s : Bs) : bd (ropN s).1 := by
  unfold ropN
  cases h : (rnum s).2 with
  | false => exact bd_zero
  | true =>
    obtain ⟨v, hv⟩ := can_rnum h
    rw [rnum_can hv]
    exact hv.2
end Go.AL
end
section
namespace Go.AL
open Go Go.Proofs
def nm (k : Nat) : Bs := (at' opsT (k : Int)).1
def kdO (k : Nat) : Bs := (at' opsT (k : Int)).2
def lname (n : Nat) : Bs := 108 :: Lib.itoa n
def lim (k : Option UInt8) (n : Nat) : Int × Int := match k with
  | none => (0, 0)
  | some c => cond (decide (c = 114)) (0, 7) (cond (decide (c = 110)) (-1000000000, 1000000000) (0, n))
def mayV (k : Option UInt8) (n : Nat) (v : Int) : Bool := inn v (lim k n).1 (lim k n).2
def mayI (n : Nat) (i : Ins) : Bool := inn i.op 0 26 && (mayV (kdO i.op.toNat)[0]? n i.a && (mayV (kdO i.op.toNat)[1]? n i.b && mayV (kdO i.op.toNat)[2]? n i.c))
def rightC (l : List Ins) : Bool := decide (l.length ≤ 1000) && l.all (mayI l.length)
theorem kd_of : ∀ k : Nat, k < 27 → (kdO k).length ≤ 3 ∧ (kdO k).all (fun c => decide (c = 114) || (decide (c = 110) || decide (c = 116))) = true := by decide
end Go.AL
end
section
namespace Go.AL
open Go Go.Proofs
theorem inn_iff {v a b : Int} : inn v a b = true ↔ a ≤ v ∧ v ≤ b := by
  unfold inn; simp
end Go.AL
end
section
set_option maxRecDepth 100000
namespace Go.AL
open Go Go.Proofs
attribute [local irreducible] J
def look2 (m : Mp) (w : Bs) : Int × Int := match m.lookup w with | some n => (n, 0) | none => (0, 8)
def whereP (s w : Bs) : Int × Int := cond (decide ((parseP s).2.2 = 0)) (look2 (labels s) w) (0, (parseP s).2.2)
theorem where_ok (g : Gl) (s w : Bs) (hs : s.length ≤ 1000000) : ACalls Tryz.prog 85 [sv s, sv w] (gls g) (one (.tup [iv (whereP s w).1, iv (whereP s w).2]) (gls g)) := by
  have hp := parse_ok g s hs
  have hl := labels_ok s hs
  have hf := encM_find (labels s) w
  have hks := encM_keys (labels s)
  unfold whereP look2
  generalize parseP s = r at *
  obtain ⟨r1, r2, r3⟩ := r
  simp only at hp ⊢
  by_cases h0 : r3 = 0
  · subst h0
    simp only [decide_true, cond_true]
    cases hlk : (labels s).lookup w with
    | none =>
      rw [hlk] at hf
      simp only [Option.map_none] at hf
      refine jcalls Tryz.func85 rfl (by kernel_rfl) Tryz.ntmps85 rfl rfl (fun w0 β0 ext hβ => ?_)
      repeat (first | refine js rfl ?_ | (refine jdraw ?_ ?_; · kernel_rfl) | refine jbu rfl rfl rfl rfl ?_)
      refine jb [0,1,2,3] hp rfl rfl rfl ⟨rfl, rfl, rfl, rfl, rfl, rfl⟩ rfl rfl rfl rfl ?_
      repeat (first | refine js rfl ?_ | (refine jdraw ?_ ?_; · kernel_rfl) | refine jbu rfl rfl rfl rfl ?_)
      refine jb [] hl rfl rfl rfl ⟨rfl, rfl, rfl, rfl, rfl, rfl⟩ rfl rfl rfl rfl ?_
      repeat (first | refine js rfl ?_ | (refine jdraw ?_ ?_; · kernel_rfl) | refine jbu rfl rfl rfl rfl ?_ | refine jo rfl rfl (map_get rfl rfl rfl rfl rfl rfl rfl rfl rfl trivial hks hf rfl) rfl rfl ?_)
      exact jr rfl rfl rfl rfl
    | some n =>
      rw [hlk] at hf
      simp only [Option.map_some] at hf
      refine jcalls Tryz.func85 rfl (by kernel_rfl) Tryz.ntmps85 rfl rfl (fun w0 β0 ext hβ => ?_)
      repeat (first | refine js rfl ?_ | (refine jdraw ?_ ?_; · kernel_rfl) | refine jbu rfl rfl rfl rfl ?_)
      refine jb [0,1,2,3] hp rfl rfl rfl ⟨rfl, rfl, rfl, rfl, rfl, rfl⟩ rfl rfl rfl rfl ?_
      repeat (first | refine js rfl ?_ | (refine jdraw ?_ ?_; · kernel_rfl) | refine jbu rfl rfl rfl rfl ?_)
      refine jb [] hl rfl rfl rfl ⟨rfl, rfl, rfl, rfl, rfl, rfl⟩ rfl rfl rfl rfl ?_
      repeat (first | refine js rfl ?_ | (refine jdraw ?_ ?_; · kernel_rfl) | refine jbu rfl rfl rfl rfl ?_ | refine jo rfl rfl (map_get rfl rfl rfl rfl rfl rfl rfl rfl rfl trivial hks hf rfl) rfl rfl ?_)
      exact jr rfl rfl rfl rfl
  · rw [decide_eq_false h0]
    have e1 : (r3 != 0) = true := by simpa using h0
    refine jcalls Tryz.func85 rfl (by kernel_rfl) Tryz.ntmps85 rfl rfl (fun w0 β0 ext hβ => ?_)
    repeat (first | refine js rfl ?_ | (refine jdraw ?_ ?_; · kernel_rfl) | refine jbu rfl rfl rfl rfl ?_)
    refine jb [0,1,2,3] hp rfl rfl rfl ⟨rfl, rfl, rfl, rfl, rfl, rfl⟩ rfl rfl rfl rfl ?_
    repeat (first | refine js rfl ?_ | (refine jdraw ?_ ?_; · kernel_rfl) | refine jbu rfl rfl rfl rfl ?_)
    rw [e1]
    repeat (first | refine js rfl ?_ | (refine jdraw ?_ ?_; · kernel_rfl) | refine jbu rfl rfl rfl rfl ?_)
    exact jr rfl rfl rfl rfl
def rwhere (s w : Bs) : Int × Int := cond (rtarget (rsplit 10 s) w).2 ((rtarget (rsplit 10 s) w).1, 0) (0, 8)
theorem rwhere_ok (s w : Bs) (hs : s.length ≤ 900000) (hw : w.length ≤ 1000000) : ACalls Tryz.prog 49 [sv s, sv w] [] (one (.tup [iv (rwhere s w).1, iv (rwhere s w).2]) []) := by
  have hsp := rsplit_ok s 10 hs
  have hlen := rsplit_len 10 s
  have hall : (rsplit 10 s).length ≤ 900001 := by
    have := (spSt_le 10 s s.length).2
    unfold rsplit
    simp
    omega
  have ht := rtarget_ok (rsplit 10 s) w hw (by omega) (fun l hm => by have := hlen l hm; omega)
  unfold rwhere
  generalize rtarget (rsplit 10 s) w = t at *
  obtain ⟨n, b⟩ := t
  simp only at ht ⊢
  cases b
  all_goals refine jcalls Tryz.func49 rfl (by kernel_rfl) Tryz.ntmps49 rfl rfl (fun w0 β0 ext hβ => ?_)
  all_goals (
    repeat (first | refine js rfl ?_ | (refine jdraw ?_ ?_; · kernel_rfl) | refine jbu rfl rfl rfl rfl ?_ | refine jv hsp rfl rfl rfl rfl rfl ?_ | refine jv ht rfl rfl rfl rfl rfl ?_)
  )
  all_goals exact jr rfl rfl rfl rfl
theorem where_eq (s w : Bs) : whereP s w = cond (decide ((rparse s).2.2 = 0)) (rwhere s w) (0, (rparse s).2.2) := by
  unfold whereP
  rw [parse_eq]
  by_cases h0 : (rparse s).2.2 = 0
  · rw [decide_eq_true h0]
    simp only [cond_true]
    obtain ⟨x, hs, hc, hx⟩ := lines_split s
    have hx0 : x = [] := by
      unfold rparse at h0
      by_cases h4 : s.length > 40000
      · rw [decide_eq_true h4] at h0; exact absurd h0 (by simp)
      · rw [decide_eq_false h4] at h0
        simp only [cond_false] at h0
        have hlx : (rsplit 10 s).getLast? = some x := by rw [hs]; simp
        cases hb : bad1 (rpE (rlines s)) (rlines s).length with
        | some k =>
          rw [hb] at h0
          exact absurd h0 ((bad1_inv.2 k hb).2.2)
        | none =>
          rw [hb, hlx] at h0
          by_cases hx1 : x = []
          · exact hx1
          · rw [decide_eq_false (by simpa using hx1)] at h0
            exact absurd h0 (by simp)
    unfold look2 rwhere rtarget
    rw [labels_look, hs, hx0, List.findIdx?_append]
    have hno : ([([] : Bs)].findIdx? fun l => decide (l = w ++ [58])) = none := by
      simp [List.findIdx?_cons]
    rw [hno]
    cases hf : (rlines s).findIdx? (fun l => decide (l = w ++ [58])) with
    | none => simp
    | some i =>
      have hi : i < (rlines s).length := by
        have := List.findIdx?_eq_some_iff_getElem.1 hf
        obtain ⟨h, _⟩ := this
        exact h
      simp only [Option.map_some, Option.orElse_some, cond_true, Option.some_or]
      have : nl (rlines s ++ [[]]) i = nl (rlines s) i := by
        unfold nl
        rw [List.take_append_of_le_length (by omega)]
      simp [this]
  · rw [decide_eq_false h0]; rfl
end Go.AL
end
section
set_option maxRecDepth 100000
namespace Go.AL
open Go Go.Proofs
def tgD (tg : List (Bs × Int)) (s : Bs) : Int × Int := match tg.lookup s with | some p => (p, 0) | none => (0, 11)
def ropD (tg : List (Bs × Int)) (k : UInt8) (s : Bs) : Int × Int := cond (decide (k = 114)) (rdR s) (cond (decide (k = 110)) (ropN s) (cond (rname s) (tgD tg s) (0, 3)))
def allD (tg : List (Bs × Int)) : Bs → List Bs → Option (List Int)
  | [], [] => some []
  | c :: cs, w :: ws => cond (decide ((ropD tg c w).2 = 0)) ((allD tg cs ws).map ((ropD tg c w).1 :: ·)) none
  | _, _ => none
def lineD (tg : List (Bs × Int)) (l : Bs) : Option Ins :=
  match rsplit 32 l with
  | [] => none
  | w :: ws => cond (decide (0 ≤ findOp w) && decide ((findOp w).toNat < 27))
      ((allD tg (at' opsT (((findOp w).toNat : Nat) : Int)).2 ws).map fun vs => ⟨(((findOp w).toNat : Nat) : Int), vs.getD 0 0, vs.getD 1 0, vs.getD 2 0⟩) none
def lnD (tg : List (Bs × Int)) (l : Bs) : Option (Option Ins) := cond (rlab l) (cond (rname l.dropLast) (some none) none) ((lineD tg l).map some)
def blk (tg : List (Bs × Int)) (C : List Bs) : List (Bs × Option Ins) := C.map fun l => (l, (lnD tg l).getD none)
end Go.AL
end
section
set_option maxRecDepth 100000
namespace Go.AL
open Go Go.Proofs
theorem rop_may {ls : List Bs} {c : UInt8} {s : Bs} {N : Nat} (hN : nl ls ls.length = (N : Int)) (hc : c = 114 ∨ c = 110 ∨ c = 116) (h : (rop ls c s).2 = 0) : mayV (some c) N (rop ls c s).1 = true := by
  unfold mayV
  refine inn_iff.2 ?_
  rcases hc with rfl | rfl | rfl
  · show (0 : Int) ≤ (rdR s).1 ∧ (rdR s).1 ≤ 7
    have h : (rdR s).2 = 0 := h
    rcases s with _ | ⟨a, _ | ⟨b, _ | ⟨c, t⟩⟩⟩
    · exact absurd (show (3 : Int) = 0 from h) (by decide)
    · exact absurd (show (3 : Int) = 0 from h) (by decide)
    · have e0 : rdR [a, b] = cond (decide (a.toNat = 114)) (cond (inn b.toNat 48 55) ((b.toNat : Int) - 48, 0) (0, 3)) (0, 3) := rfl
      rw [e0] at h ⊢
      cases h1 : decide (a.toNat = 114) with
      | false => rw [h1] at h; exact absurd (show (3 : Int) = 0 from h) (by decide)
      | true =>
        rw [h1] at h
        cases h2 : inn b.toNat 48 55 with
        | false => rw [h2] at h; exact absurd (show (3 : Int) = 0 from h) (by decide)
        | true =>
          obtain ⟨k1, k2⟩ := inn_iff.1 h2
          simp only [cond_true]
          exact ⟨by omega, by omega⟩
    · exact absurd (show (3 : Int) = 0 from h) (by decide)
  · show (-1000000000 : Int) ≤ (ropN s).1 ∧ (ropN s).1 ≤ 1000000000
    exact ropN_bd s
  · show (0 : Int) ≤ (ropT ls s).1 ∧ (ropT ls s).1 ≤ (N : Int)
    unfold ropT
    cases rname s
    · exact ⟨Int.le_refl 0, by simp⟩
    · unfold rtarget
      cases hf : ls.findIdx? (fun l => decide (l = s ++ [58])) with
      | none => exact ⟨Int.le_refl 0, by simp⟩
      | some i =>
        obtain ⟨hi, _⟩ := List.findIdx?_eq_some_iff_getElem.1 hf
        have h1 := nl_le ls i
        have h2 := nl_mono ls (show i ≤ ls.length by omega)
        simp only [cond_true]
        exact ⟨h1.1, by omega⟩
theorem insOf_may {ls : List Bs} {l : Bs} {k : Nat} {ws : List Bs} {N : Nat} (hN : nl ls ls.length = (N : Int)) (h : LineOk ls l k ws) : mayI N (insOf ls k ws) = true := by
  obtain ⟨hk, hw, hln, ha⟩ := h
  have hkd := (kd_of k hk).2
  have hg : ∀ q, mayV (kdO k)[q]? N ((rAll ls (at' opsT (k : Int)).2 ws).1.getD q 0) = true := fun q => by
    rw [rAll_get hln ha]
    by_cases hq : q < (at' opsT (k : Int)).2.length
    · rw [decide_eq_true hq]
      have hq2 : q < (kdO k).length := hq
      rw [List.getElem?_eq_getElem hq2]
      have hm := List.all_eq_true.1 hkd _ (List.getElem_mem hq2)
      have he : (at' opsT (k : Int)).2.getD q 0 = (kdO k)[q] := by
        show (kdO k).getD q 0 = _
        simp [List.getD, hq2]
      rw [he]
      have ha := ha q hq
      rw [he] at ha
      refine rop_may hN ?_ ha
      simpa using hm
    · rw [decide_eq_false hq]
      have hq2 : (kdO k).length ≤ q := by
        have : ¬ q < (kdO k).length := hq
        omega
      rw [List.getElem?_eq_none hq2]
      rfl
  unfold mayI insOf
  simp only
  have e : ((k : Int)).toNat = k := by omega
  rw [e, hg 0, hg 1, hg 2, inn_iff.2 (show (0 : Int) ≤ (k : Int) ∧ (k : Int) ≤ 26 from ⟨by omega, by omega⟩)]
  rfl
theorem rpSt_may {ls : List Bs} {N : Nat} (hN : nl ls ls.length = (N : Int)) (hz : ∀ q, q < ls.length → rpE ls q = 0) : ∀ k, k ≤ ls.length → (rpSt ls k).length ≤ 1000 ∧ ∀ i ∈ rpSt ls k, mayI N i = true
  | 0, _ => ⟨by simp [rpSt], fun i h => absurd h (by simp [rpSt])⟩
  | k + 1, hk => by
    have hk2 : k < ls.length := by omega
    obtain ⟨i1, i2⟩ := rpSt_may hN hz k (by omega)
    have hE := hz k hk2
    unfold rpE at hE
    rw [getD_at hk2] at hE
    rw [rpSt_succ hk2]
    cases hr : rlab ls[k] with
    | true => exact ⟨i1, i2⟩
    | false =>
      rw [hr] at hE
      simp only [cond_false] at hE ⊢
      obtain ⟨kk, ws, hL, hn, e⟩ := rinstr_inv hE
      rw [e]
      refine ⟨by simp; omega, fun i h => ?_⟩
      rcases List.mem_append.1 h with h | h
      · exact i2 i h
      · rw [List.mem_singleton.1 h]
        exact insOf_may hN hL
theorem parse_right {s : Bs} (h : (rparse s).2.2 = 0) : rightC (rparse s).1 = true := by
  obtain ⟨h1, h2, h3, h4⟩ := rparse_good h
  rw [h4]
  have hN := (rpSt_nl (rlines s) _ (Nat.le_refl _)).symm
  obtain ⟨k1, k2⟩ := rpSt_may hN h3 _ (Nat.le_refl _)
  unfold rightC
  rw [decide_eq_true k1, Bool.true_and, List.all_eq_true]
  exact k2
theorem where_right {s w : Bs} (h : (rparse s).2.2 = 0) : 0 ≤ (rwhere s w).1 ∧ (rwhere s w).1 ≤ (rparse s).1.length := by
  obtain ⟨h1, h2, h3, h4⟩ := rparse_good h
  rw [h4]
  unfold rwhere
  rw [h2]
  cases hb : (rtarget (rlines s ++ [[]]) w).2 with
  | false => exact ⟨Int.le_refl 0, by simp⟩
  | true =>
    simp only [cond_true]
    have hN := rpSt_nl (rlines s) _ (Nat.le_refl _)
    unfold rtarget at hb ⊢
    cases hf : (rlines s ++ [[]]).findIdx? (fun l => decide (l = w ++ [58])) with
    | none => rw [hf] at hb; cases hb
    | some i =>
      obtain ⟨hi, hi2, _⟩ := List.findIdx?_eq_some_iff_getElem.1 hf
      simp only
      rw [hN]
      have hil : i ≤ (rlines s).length := by simp at hi; omega
      rw [nl_left _ _ hil]
      have := nl_le (rlines s) i
      have := nl_mono (rlines s) hil
      omega
end Go.AL
end
