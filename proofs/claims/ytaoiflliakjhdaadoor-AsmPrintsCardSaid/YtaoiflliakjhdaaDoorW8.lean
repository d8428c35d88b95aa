/-
  asm.Right: the walk. No conditions.
  asm.Right, the rest, and the law's cut of code. No conditions.
  asm.targets: the walk. No conditions.
  asm.Print's labels: the walk. No conditions.
-/
import Derived.Test.YtaoiflliakjhdaaDoorV20
import Derived.Test.YtaoiflliakjhdaaDoorW4
set_option linter.unusedVariables false
set_option linter.unusedSimpArgs false
set_option maxRecDepth 100000
namespace Go.AL
open Go Go.Proofs
attribute [local irreducible] J

theorem operands_ok (op a b c : Int) : ACalls Tryd.prog 36 [.agg [iv op, iv a, iv b, iv c]] [] (one (.agg [iv a, iv b, iv c]) []) := by
  refine jcalls Tryd.func36 rfl (by kernel_rfl) Tryd.ntmps36 rfl rfl (fun w0 β0 ext hβ => ?_)
  repeat (first | refine js rfl ?_ | (refine jdraw ?_ ?_; · kernel_rfl) | refine jbu rfl rfl rfl rfl ?_)
  exact jr rfl rfl rfl rfl
def mH (l : List Ins) : List AObj := [.box 60 opsC, .box 23 [.sl (l.map encIns)]]
theorem mayR {n : Nat} {kd : Bs} {a b c : Int} :
    ((∀ p, p < 3 → mayV kd[p]? n ([a, b, c].getD p 0) = true) → (mayV kd[0]? n a && (mayV kd[1]? n b && mayV kd[2]? n c)) = true) ∧
    ∀ p, p < 3 → mayV kd[p]? n ([a, b, c].getD p 0) = false → (mayV kd[0]? n a && (mayV kd[1]? n b && mayV kd[2]? n c)) = false := by
  refine ⟨fun h => ?_, fun p hp h => ?_⟩
  · have h0 := h 0 (by omega); have h1 := h 1 (by omega); have h2 := h 2 (by omega)
    simp at h0 h1 h2
    rw [h0, h1, h2]; rfl
  · match p, hp with
    | 0, _ => simp at h; rw [h]; rfl
    | 1, _ => simp at h; rw [h]; simp
    | 2, _ => simp at h; rw [h]; simp
    | p + 3, hp => omega
theorem str_idx {kd : Bs} {i : Nat} {c : UInt8} (hc : kd[i]? = some c) : (⟨kd.toArray⟩ : ByteArray)[((i : Int)).toNat]? = some c := by
  have hik : i < kd.length := (List.getElem?_eq_some_iff.1 hc).1
  have hsz : ((i : Int)).toNat < (⟨kd.toArray⟩ : ByteArray).size := hik
  rw [getElem?_pos (⟨kd.toArray⟩ : ByteArray) _ hsz]
  rw [List.getElem?_eq_getElem hik] at hc
  injection hc with hc
  rw [← hc]; rfl
theorem may1_ok (l : List Ins) (op a b c : Int) (hl : l.length ≤ 1000000) : ACalls Tryd.prog 39 [.agg [iv op, iv a, iv b, iv c], .ptr 0 0, .ptr 1 0] (mH l) (one (bv (mayI l.length ⟨op, a, b, c⟩)) (mH l)) := by
  have h1 := in_ok op 0 26
  have h2 := operands_ok op a b c
  unfold mayI mH
  simp only
  cases hop : inn op 0 26 with
  | false =>
    rw [hop] at h1
    simp only [Bool.false_and]
    refine jcalls Tryd.func39 rfl (by kernel_rfl) Tryd.ntmps39 rfl rfl (fun w0 β0 ext hβ => ?_)
    repeat (first | refine js rfl ?_ | (refine jdraw ?_ ?_; · kernel_rfl) | refine jbu rfl rfl rfl rfl ?_ | refine jv h1 rfl rfl rfl rfl rfl ?_)
    exact jr rfl rfl rfl rfl
  | true =>
    rw [hop] at h1
    simp only [Bool.true_and]
    obtain ⟨ho1, ho2⟩ := inn_iff.1 hop
    obtain ⟨k, rfl⟩ : ∃ k : Nat, op = k := ⟨op.toNat, by omega⟩
    have hk : k < 27 := by omega
    have hkd := ops_kind k hk
    obtain ⟨hk3, hkc⟩ := kinds_ok k hk
    rw [show ((k : Int)).toNat = k from Int.toNat_natCast k]
    unfold kdO
    generalize (at' opsT (k : Int)).2 = kd at *
    obtain ⟨rt, rf⟩ := mayR (n := l.length) (kd := kd) (a := a) (b := b) (c := c)
    generalize (mayV kd[0]? l.length a && (mayV kd[1]? l.length b && mayV kd[2]? l.length c)) = res at *
    refine jcalls Tryd.func39 rfl (by kernel_rfl) Tryd.ntmps39 rfl rfl (fun w0 β0 ext hβ => ?_)
    repeat (first | refine js rfl ?_ | (refine jdraw ?_ ?_; · kernel_rfl) | refine jbu rfl rfl rfl rfl ?_ | refine jv h1 rfl rfl rfl rfl rfl ?_ | refine jo rfl rfl (index_arr rfl rfl rfl rfl rfl (by omega) (by omega)) rfl rfl ?_ | refine jo rfl rfl (load_dsem rfl rfl rfl hkd) rfl rfl ?_ | refine jv h2 rfl rfl rfl rfl rfl ?_)
    refine jloopI (fun q : Nat => q ≤ 3 ∧ ∀ p, p < q → mayV kd[p]? l.length ([a, b, c].getD p 0) = true) [3, 5, 20, 21, 1, 2] (fun q => [.ptr 2 0, sv kd, .agg [iv a, iv b, iv c], iv q, .ptr 0 0, .ptr 1 0])
      (fun _ => [.box 60 opsC, .box 23 [.sl (l.map encIns)], .box 31 [iv (k : Int), iv a, iv b, iv c]]) (fun q => 3 - q) 0 ⟨by omega, fun p hp => absurd hp (by omega)⟩ rfl rfl (fun q hq => ?_)
    obtain ⟨hq, hok⟩ := hq
    have hstep : ∀ q, q < 3 → (∀ p, p < q → mayV kd[p]? l.length ([a, b, c].getD p 0) = true) → mayV kd[q]? l.length ([a, b, c].getD q 0) = true → q + 1 ≤ 3 ∧ ∀ p, p < q + 1 → mayV kd[p]? l.length ([a, b, c].getD p 0) = true := fun q hq h1 h2 => ⟨by omega, fun p hp => by
      by_cases e : p = q
      · rw [e]; exact h2
      · exact h1 p (by omega)⟩
    by_cases hq3 : q = 3
    · subst hq3
      rw [rt hok]
      repeat (first | refine js rfl ?_ | (refine jdraw ?_ ?_; · kernel_rfl) | refine jbu rfl rfl rfl rfl ?_)
      exact jr rfl rfl rfl rfl
    · have hql : q = 0 ∨ q = 1 ∨ q = 2 := by omega
      obtain ⟨v, hv⟩ : ∃ v, [a, b, c].getD q 0 = v := ⟨_, rfl⟩
      have rf' := rf q (by omega)
      have hst := hstep q (by omega) hok
      rw [hv] at rf' hst
      by_cases hqk : q < kd.length
      · have hc : kd[q]? = some kd[q] := List.getElem?_eq_getElem hqk
        have hcb := str_idx hc
        have hcc := hkc kd[q] (List.getElem_mem hqk)
        have hd1 : decide ((q : Int) < ((ByteArray.size ⟨kd.toArray⟩ : Nat) : Int)) = true := decide_eq_true (by rw [show ByteArray.size ⟨kd.toArray⟩ = kd.length from rfl]; omega)
        rw [hc] at rf' hst
        generalize kd[q] = ch at *
        rcases hcc with rfl | rfl | rfl
        · skip
          have h3 := in_ok v 0 7
          have e : mayV (some 114) l.length v = inn v 0 7 := rfl
          rw [e] at rf' hst
          cases hb : inn v 0 7 with
          | false =>
            rw [hb] at h3
            rw [rf' hb]
            rcases hql with rfl | rfl | rfl
            all_goals subst hv
            all_goals (
              repeat (first | refine js rfl ?_ | (refine jdraw ?_ ?_; · kernel_rfl) | refine jbu rfl rfl rfl rfl ?_ | refine jo rfl rfl (index_agg rfl rfl rfl rfl rfl (by omega) (by omega) rfl) rfl rfl ?_ | refine jo rfl rfl (index_str rfl rfl rfl rfl (Int.natCast_nonneg _) hcb) rfl rfl ?_ | refine jv h3 rfl rfl rfl rfl rfl ?_)
            )
            all_goals rw [hd1]
            all_goals (
              repeat (first | refine js rfl ?_ | (refine jdraw ?_ ?_; · kernel_rfl) | refine jbu rfl rfl rfl rfl ?_ | refine jo rfl rfl (index_agg rfl rfl rfl rfl rfl (by omega) (by omega) rfl) rfl rfl ?_ | refine jo rfl rfl (index_str rfl rfl rfl rfl (Int.natCast_nonneg _) hcb) rfl rfl ?_ | refine jv h3 rfl rfl rfl rfl rfl ?_)
            )
            all_goals exact jr rfl rfl rfl rfl
          | true =>
            rw [hb] at h3
            rcases hql with rfl | rfl | rfl
            all_goals subst hv
            all_goals (
              repeat (first | refine js rfl ?_ | (refine jdraw ?_ ?_; · kernel_rfl) | refine jbu rfl rfl rfl rfl ?_ | refine jo rfl rfl (index_agg rfl rfl rfl rfl rfl (by omega) (by omega) rfl) rfl rfl ?_ | refine jo rfl rfl (index_str rfl rfl rfl rfl (Int.natCast_nonneg _) hcb) rfl rfl ?_ | refine jv h3 rfl rfl rfl rfl rfl ?_)
            )
            all_goals rw [hd1]
            all_goals (
              repeat (first | refine js rfl ?_ | (refine jdraw ?_ ?_; · kernel_rfl) | refine jbu rfl rfl rfl rfl ?_ | refine jo rfl rfl (index_agg rfl rfl rfl rfl rfl (by omega) (by omega) rfl) rfl rfl ?_ | refine jo rfl rfl (index_str rfl rfl rfl rfl (Int.natCast_nonneg _) hcb) rfl rfl ?_ | refine jv h3 rfl rfl rfl rfl rfl ?_)
            )
            all_goals refine jnextI (_ + 1) (hst hb) rfl rfl (by omega)
        · skip
          have h3 := in_ok v (-1000000000) 1000000000
          have e : mayV (some 110) l.length v = inn v (-1000000000) 1000000000 := rfl
          rw [e] at rf' hst
          cases hb : inn v (-1000000000) 1000000000 with
          | false =>
            rw [hb] at h3
            rw [rf' hb]
            rcases hql with rfl | rfl | rfl
            all_goals subst hv
            all_goals (
              repeat (first | refine js rfl ?_ | (refine jdraw ?_ ?_; · kernel_rfl) | refine jbu rfl rfl rfl rfl ?_ | refine jo rfl rfl (index_agg rfl rfl rfl rfl rfl (by omega) (by omega) rfl) rfl rfl ?_ | refine jo rfl rfl (index_str rfl rfl rfl rfl (Int.natCast_nonneg _) hcb) rfl rfl ?_ | refine jv h3 rfl rfl rfl rfl rfl ?_)
            )
            all_goals rw [hd1]
            all_goals (
              repeat (first | refine js rfl ?_ | (refine jdraw ?_ ?_; · kernel_rfl) | refine jbu rfl rfl rfl rfl ?_ | refine jo rfl rfl (index_agg rfl rfl rfl rfl rfl (by omega) (by omega) rfl) rfl rfl ?_ | refine jo rfl rfl (index_str rfl rfl rfl rfl (Int.natCast_nonneg _) hcb) rfl rfl ?_ | refine jv h3 rfl rfl rfl rfl rfl ?_)
            )
            all_goals exact jr rfl rfl rfl rfl
          | true =>
            rw [hb] at h3
            rcases hql with rfl | rfl | rfl
            all_goals subst hv
            all_goals (
              repeat (first | refine js rfl ?_ | (refine jdraw ?_ ?_; · kernel_rfl) | refine jbu rfl rfl rfl rfl ?_ | refine jo rfl rfl (index_agg rfl rfl rfl rfl rfl (by omega) (by omega) rfl) rfl rfl ?_ | refine jo rfl rfl (index_str rfl rfl rfl rfl (Int.natCast_nonneg _) hcb) rfl rfl ?_ | refine jv h3 rfl rfl rfl rfl rfl ?_)
            )
            all_goals rw [hd1]
            all_goals (
              repeat (first | refine js rfl ?_ | (refine jdraw ?_ ?_; · kernel_rfl) | refine jbu rfl rfl rfl rfl ?_ | refine jo rfl rfl (index_agg rfl rfl rfl rfl rfl (by omega) (by omega) rfl) rfl rfl ?_ | refine jo rfl rfl (index_str rfl rfl rfl rfl (Int.natCast_nonneg _) hcb) rfl rfl ?_ | refine jv h3 rfl rfl rfl rfl rfl ?_)
            )
            all_goals refine jnextI (_ + 1) (hst hb) rfl rfl (by omega)
        · skip
          have h3 := in_ok v 0 ((l.map encIns).length : Int)
          have e : mayV (some 116) l.length v = inn v 0 ((l.map encIns).length : Int) := by rw [List.length_map]; rfl
          rw [e] at rf' hst
          cases hb : inn v 0 ((l.map encIns).length : Int) with
          | false =>
            rw [hb] at h3
            rw [rf' hb]
            rcases hql with rfl | rfl | rfl
            all_goals subst hv
            all_goals (
              repeat (first | refine js rfl ?_ | (refine jdraw ?_ ?_; · kernel_rfl) | refine jbu rfl rfl rfl rfl ?_ | refine jo rfl rfl (index_agg rfl rfl rfl rfl rfl (by omega) (by omega) rfl) rfl rfl ?_ | refine jo rfl rfl (index_str rfl rfl rfl rfl (Int.natCast_nonneg _) hcb) rfl rfl ?_ | refine jv h3 rfl rfl rfl rfl rfl ?_)
            )
            all_goals rw [hd1]
            all_goals (
              repeat (first | refine js rfl ?_ | (refine jdraw ?_ ?_; · kernel_rfl) | refine jbu rfl rfl rfl rfl ?_ | refine jo rfl rfl (index_agg rfl rfl rfl rfl rfl (by omega) (by omega) rfl) rfl rfl ?_ | refine jo rfl rfl (index_str rfl rfl rfl rfl (Int.natCast_nonneg _) hcb) rfl rfl ?_ | refine jv h3 rfl rfl rfl rfl rfl ?_)
            )
            all_goals exact jr rfl rfl rfl rfl
          | true =>
            rw [hb] at h3
            rcases hql with rfl | rfl | rfl
            all_goals subst hv
            all_goals (
              repeat (first | refine js rfl ?_ | (refine jdraw ?_ ?_; · kernel_rfl) | refine jbu rfl rfl rfl rfl ?_ | refine jo rfl rfl (index_agg rfl rfl rfl rfl rfl (by omega) (by omega) rfl) rfl rfl ?_ | refine jo rfl rfl (index_str rfl rfl rfl rfl (Int.natCast_nonneg _) hcb) rfl rfl ?_ | refine jv h3 rfl rfl rfl rfl rfl ?_)
            )
            all_goals rw [hd1]
            all_goals (
              repeat (first | refine js rfl ?_ | (refine jdraw ?_ ?_; · kernel_rfl) | refine jbu rfl rfl rfl rfl ?_ | refine jo rfl rfl (index_agg rfl rfl rfl rfl rfl (by omega) (by omega) rfl) rfl rfl ?_ | refine jo rfl rfl (index_str rfl rfl rfl rfl (Int.natCast_nonneg _) hcb) rfl rfl ?_ | refine jv h3 rfl rfl rfl rfl rfl ?_)
            )
            all_goals refine jnextI (_ + 1) (hst hb) rfl rfl (by omega)
      · have hc : kd[q]? = none := List.getElem?_eq_none (by omega)
        have hd1 : decide ((q : Int) < ((ByteArray.size ⟨kd.toArray⟩ : Nat) : Int)) = false := decide_eq_false (by rw [show ByteArray.size ⟨kd.toArray⟩ = kd.length from rfl]; omega)
        rw [hc] at rf' hst
        have h3 := in_ok v 0 0
        have e : mayV none l.length v = inn v 0 0 := rfl
        rw [e] at rf' hst
        cases hb : inn v 0 0 with
        | false =>
          rw [hb] at h3
          rw [rf' hb]
          rcases hql with rfl | rfl | rfl
          all_goals subst hv
          all_goals (
            repeat (first | refine js rfl ?_ | (refine jdraw ?_ ?_; · kernel_rfl) | refine jbu rfl rfl rfl rfl ?_ | refine jo rfl rfl (index_agg rfl rfl rfl rfl rfl (by omega) (by omega) rfl) rfl rfl ?_ | refine jv h3 rfl rfl rfl rfl rfl ?_)
          )
          all_goals rw [hd1]
          all_goals (
            repeat (first | refine js rfl ?_ | (refine jdraw ?_ ?_; · kernel_rfl) | refine jbu rfl rfl rfl rfl ?_ | refine jo rfl rfl (index_agg rfl rfl rfl rfl rfl (by omega) (by omega) rfl) rfl rfl ?_ | refine jv h3 rfl rfl rfl rfl rfl ?_)
          )
          all_goals exact jr rfl rfl rfl rfl
        | true =>
          rw [hb] at h3
          rcases hql with rfl | rfl | rfl
          all_goals subst hv
          all_goals (
            repeat (first | refine js rfl ?_ | (refine jdraw ?_ ?_; · kernel_rfl) | refine jbu rfl rfl rfl rfl ?_ | refine jo rfl rfl (index_agg rfl rfl rfl rfl rfl (by omega) (by omega) rfl) rfl rfl ?_ | refine jv h3 rfl rfl rfl rfl rfl ?_)
          )
          all_goals rw [hd1]
          all_goals (
            repeat (first | refine js rfl ?_ | (refine jdraw ?_ ?_; · kernel_rfl) | refine jbu rfl rfl rfl rfl ?_ | refine jo rfl rfl (index_agg rfl rfl rfl rfl rfl (by omega) (by omega) rfl) rfl rfl ?_ | refine jv h3 rfl rfl rfl rfl rfl ?_)
          )
          all_goals refine jnextI (_ + 1) (hst hb) rfl rfl (by omega)
end Go.AL
namespace Go.AL
open Go Go.Proofs
attribute [local irreducible] J

def mH2 (l : List Ins) : List AObj := [.box 60 opsC, .box 23 [.sl (l.map encIns)], .box 77 [.fn (.func 39) [] [.ptr 0 0, .ptr 1 0]]]
theorem may2_ok (l : List Ins) (i : Ins) (hl : l.length ≤ 1000000) : ACalls Tryd.prog 42 [encIns i, .ptr 2 0] (mH2 l) (one (bv (!mayI l.length i)) (mH2 l)) := by
  obtain ⟨op, a, b, c⟩ := i
  have h1 := may1_ok l op a b c hl
  unfold mH at h1
  unfold mH2 encIns
  simp only
  generalize mayI l.length ⟨op, a, b, c⟩ = r at *
  refine jcalls Tryd.func42 rfl (by kernel_rfl) Tryd.ntmps42 rfl rfl (fun w0 β0 ext hβ => ?_)
  repeat (first | refine js rfl ?_ | (refine jdraw ?_ ?_; · kernel_rfl) | refine jbu rfl rfl rfl rfl ?_)
  refine jb [0,1] h1 rfl rfl rfl ⟨rfl, rfl, rfl, rfl, rfl, rfl⟩ rfl rfl rfl rfl ?_
  cases r
  all_goals (
    repeat (first | refine js rfl ?_ | (refine jdraw ?_ ?_; · kernel_rfl) | refine jbu rfl rfl rfl rfl ?_)
  )
  all_goals exact jr rfl rfl rfl rfl
def fidx (n : Nat) (l : List Ins) : Int := match l.findIdx? (fun i => !mayI n i) with | some i => i | none => -1
theorem findex_ok (l : List Ins) (hl : l.length ≤ 1000000) : ACalls Tryd.prog 64 [.sl (l.map encIns), .fn (.func 42) [] [.ptr 2 0]] (mH2 l) (one (iv (fidx l.length l)) (mH2 l)) := by
  unfold mH2
  refine jcalls Tryd.func64 rfl (by kernel_rfl) Tryd.ntmps64 rfl rfl (fun w0 β0 ext hβ => ?_)
  repeat (first | refine js rfl ?_ | (refine jdraw ?_ ?_; · kernel_rfl) | refine jbu rfl rfl rfl rfl ?_)
  refine jloopI (fun k : Nat => k ≤ l.length ∧ ∀ q, q < k → mayI l.length (at' l (q : Int)) = true) [0, 1, 8, 7] (fun k => [.sl (l.map encIns), .fn (.func 42) [] [.ptr 2 0], .v (.int .i64 (k : Int)), .v (.int .i64 ((l.map encIns).length : Int))])
    (fun _ => [.box 60 opsC, .box 23 [.sl (l.map encIns)], .box 77 [.fn (.func 39) [] [.ptr 0 0, .ptr 1 0]]]) (fun k => l.length - k) 0 ⟨Nat.zero_le _, fun q h => absurd h (by omega)⟩ rfl rfl (fun k hk => ?_)
  obtain ⟨hk, hok⟩ := hk
  repeat (first | refine js rfl ?_ | (refine jdraw ?_ ?_; · kernel_rfl) | refine jbu rfl rfl rfl rfl ?_)
  refine jc rfl rfl rfl (fun h => ?_) (fun h => ?_)
  · have h := of_decide_eq_true h
    rw [List.length_map] at h
    have hk2 : k < l.length := by omega
    have hc := may2_ok l (at' l (k : Int)) hl
    unfold mH2 at hc
    repeat (first | refine js rfl ?_ | (refine jdraw ?_ ?_; · kernel_rfl) | refine jbu rfl rfl rfl rfl ?_ | refine jo rfl rfl (index_at rfl rfl rfl rfl rfl rfl rfl rfl (Int.natCast_nonneg k) h) rfl rfl ?_)
    refine jb [0,1,2] hc rfl rfl rfl ⟨rfl, rfl, rfl, rfl, rfl, rfl⟩ rfl rfl rfl rfl ?_
    cases hb : mayI l.length (at' l (k : Int)) with
    | false =>
      repeat (first | refine js rfl ?_ | (refine jdraw ?_ ?_; · kernel_rfl) | refine jbu rfl rfl rfl rfl ?_)
      have : fidx l.length l = (k : Int) := by
        unfold fidx
        rw [at_nat l k hk2] at hb
        rw [List.findIdx?_eq_some_iff_getElem.2 ⟨hk2, by rw [hb]; rfl, fun j hj => by
          have e2 := hok j hj
          rw [at_nat l j (by omega)] at e2
          simp [e2]⟩]
      rw [this]
      exact jr rfl rfl rfl rfl
    | true =>
      repeat (first | refine js rfl ?_ | (refine jdraw ?_ ?_; · kernel_rfl) | refine jbu rfl rfl rfl rfl ?_)
      refine jnextI (k + 1) ⟨by omega, fun q hq => ?_⟩ ?_ rfl (by omega)
      · by_cases e : q = k
        · subst e; exact hb
        · exact hok q (by omega)
      · show some _ = some _
        rw [idx_next hk2 (by omega)]
  · have h := of_decide_eq_false h
    rw [List.length_map] at h
    repeat (first | refine js rfl ?_ | (refine jdraw ?_ ?_; · kernel_rfl) | refine jbu rfl rfl rfl rfl ?_)
    have : fidx l.length l = -1 := by
      unfold fidx
      rw [List.findIdx?_eq_none_iff.2 fun p hp => ?_]
      obtain ⟨i, hi, rfl⟩ := List.getElem_of_mem hp
      have e2 := hok i (by omega)
      rw [at_nat l i hi] at e2
      simp [e2]
    rw [this]
    exact jr rfl rfl rfl rfl
theorem containsI_ok (l : List Ins) (hl : l.length ≤ 1000000) : ACalls Tryd.prog 41 [.sl (l.map encIns), .fn (.func 42) [] [.ptr 2 0]] (mH2 l) (one (bv (!l.all (mayI l.length))) (mH2 l)) := by
  have h1 := findex_ok l hl
  have h2 : decide (fidx l.length l ≥ 0) = !l.all (mayI l.length) := by
    unfold fidx
    cases hf : l.findIdx? (fun i => !mayI l.length i) with
    | some i =>
      obtain ⟨hi, h3, _⟩ := List.findIdx?_eq_some_iff_getElem.1 hf
      have : l.all (mayI l.length) = false := by
        rw [List.all_eq_false]
        exact ⟨_, List.getElem_mem hi, by simpa using h3⟩
      rw [this]; simp
    | none =>
      rw [List.findIdx?_eq_none_iff] at hf
      have : l.all (mayI l.length) = true := by
        rw [List.all_eq_true]
        intro x hx
        simpa using hf x hx
      rw [this]; rfl
  unfold mH2 at *
  refine jcalls Tryd.func41 rfl (by kernel_rfl) Tryd.ntmps41 rfl rfl (fun w0 β0 ext hβ => ?_)
  repeat (first | refine js rfl ?_ | (refine jdraw ?_ ?_; · kernel_rfl) | refine jbu rfl rfl rfl rfl ?_)
  refine jb [0,1,2] h1 rfl rfl rfl ⟨rfl, rfl, rfl, rfl, rfl, rfl⟩ rfl rfl rfl rfl ?_
  repeat (first | refine js rfl ?_ | (refine jdraw ?_ ?_; · kernel_rfl) | refine jbu rfl rfl rfl rfl ?_)
  rw [h2]
  exact jr rfl rfl rfl rfl
theorem right_ok (l : List Ins) (hl : l.length ≤ 1000000) : ACalls Tryd.prog 17 [encIs l] [] (one (bv (rightC l)) []) := by
  have h1 := containsI_ok l hl
  have hop := operations_ok
  unfold rightC
  unfold mH2 at h1
  unfold encIs
  have hd : decide (((l.map encIns).length : Int) ≤ 1000) = decide (l.length ≤ 1000) := by
    rw [List.length_map]
    by_cases h : l.length ≤ 1000
    · rw [decide_eq_true h, decide_eq_true (by omega)]
    · rw [decide_eq_false h, decide_eq_false (by omega)]
  cases hb : decide (l.length ≤ 1000) with
  | false =>
    rw [hb] at hd
    refine jcalls Tryd.func17 rfl (by kernel_rfl) Tryd.ntmps17 rfl rfl (fun w0 β0 ext hβ => ?_)
    repeat (first | refine js rfl ?_ | (refine jdraw ?_ ?_; · kernel_rfl) | refine jbu rfl rfl rfl rfl ?_ | refine jv hop rfl rfl rfl rfl rfl ?_)
    rw [hd]
    repeat (first | refine js rfl ?_ | (refine jdraw ?_ ?_; · kernel_rfl) | refine jbu rfl rfl rfl rfl ?_)
    exact jr rfl rfl rfl rfl
  | true =>
    rw [hb] at hd
    refine jcalls Tryd.func17 rfl (by kernel_rfl) Tryd.ntmps17 rfl rfl (fun w0 β0 ext hβ => ?_)
    repeat (first | refine js rfl ?_ | (refine jdraw ?_ ?_; · kernel_rfl) | refine jbu rfl rfl rfl rfl ?_ | refine jv hop rfl rfl rfl rfl rfl ?_)
    rw [hd]
    repeat (first | refine js rfl ?_ | (refine jdraw ?_ ?_; · kernel_rfl) | refine jbu rfl rfl rfl rfl ?_)
    refine jb [1,0,2] h1 rfl rfl rfl ⟨rfl, rfl, rfl, rfl, rfl, rfl⟩ rfl rfl rfl rfl ?_
    cases l.all (mayI l.length)
    all_goals (
      repeat (first | refine js rfl ?_ | (refine jdraw ?_ ?_; · kernel_rfl) | refine jbu rfl rfl rfl rfl ?_)
    )
    all_goals exact jr rfl rfl rfl rfl
end Go.AL
namespace Go.AL
open Go Go.Proofs
attribute [local irreducible] J

abbrev Mn := List (Int × Int)
def encN (m : Mn) : List (Value × Value) := m.map fun p => (.int .i64 p.1, .int .i64 p.2)
theorem encN_find (m : Mn) (a : Int) : MFind (vals (encN m)) (.int .i64 a) ((m.lookup a).map iv) := by
  induction m with
  | nil => rfl
  | cons p m ih =>
    obtain ⟨q, n⟩ := p
    by_cases h : q = a
    · subst h
      exact .inl ⟨rfl, by simp [List.lookup, iv]⟩
    · refine .inr ⟨fun e => h (by injection e), ?_⟩
      have : List.lookup a ((q, n) :: m) = List.lookup a m := by
        simp only [List.lookup]
        have : (a == q) = false := by simp; exact fun e => h e.symm
        rw [this]
      rw [this]
      exact ih
theorem encN_keys (m : Mn) : MKeys (.int .i64) (vals (encN m)) := by
  intro p hp
  obtain ⟨q, hq, rfl⟩ := List.mem_map.1 hp
  obtain ⟨q', _, rfl⟩ := List.mem_map.1 hq
  rfl
def cntN (m : Mn) (s : Int) : Int := (m.lookup s).getD 0
def bumpN : Mn → Int → Mn
  | [], s => [(s, 1)]
  | (k, n) :: m, s => cond (decide (k = s)) ((s, n + 1) :: m) ((k, n) :: bumpN m s)
theorem bumpN_put : ∀ (m : Mn) (s : Int), MPut (vals (encN m)) (.int .i64 s) (iv (cntN m s + 1)) (vals (encN (bumpN m s)))
  | [], s => rfl
  | (k, n) :: m, s => by
    by_cases h : k = s
    · subst h
      have e1 : bumpN ((k, n) :: m) k = (k, n + 1) :: m := by simp [bumpN]
      have e2 : cntN ((k, n) :: m) k = n := by simp [cntN, List.lookup]
      rw [e1, e2]
      exact .inl ⟨rfl, rfl⟩
    · have e1 : bumpN ((k, n) :: m) s = (k, n) :: bumpN m s := by simp [bumpN, h]
      have e2 : cntN ((k, n) :: m) s = cntN m s := by
        have : (s == k) = false := by simp; exact fun e => h e.symm
        simp [cntN, List.lookup, this]
      rw [e1, e2]
      exact .inr ⟨fun e => h (by injection e), _, rfl, bumpN_put m s⟩
theorem bumpN_cnt : ∀ (m : Mn) (s t : Int), cntN (bumpN m s) t = cond (decide (s = t)) (cntN m s + 1) (cntN m t)
  | [], s, t => by
    by_cases h : s = t
    · subst h; simp [bumpN, cntN, List.lookup]
    · have : (t == s) = false := by simp; exact fun e => h e.symm
      simp [bumpN, cntN, List.lookup, this, h]
  | (k, n) :: m, s, t => by
    have ih := bumpN_cnt m s t
    by_cases h : k = s
    · subst h
      by_cases h2 : k = t
      · subst h2; simp [bumpN, cntN, List.lookup]
      · have : (t == k) = false := by simp; exact fun e => h2 e.symm
        simp [bumpN, cntN, List.lookup, this, h2]
    · have hs : (s == k) = false := by simp; exact fun e => h e.symm
      have e1 : bumpN ((k, n) :: m) s = (k, n) :: bumpN m s := by simp [bumpN, h]
      rw [e1]
      by_cases h2 : k = t
      · subst h2
        have h3 : ¬ s = k := fun e => h e.symm
        simp [cntN, List.lookup, h3]
      · have ht : (t == k) = false := by simp; exact fun e => h2 e.symm
        have e2 : ∀ mm : Mn, cntN ((k, n) :: mm) t = cntN mm t := fun mm => by simp [cntN, List.lookup, ht]
        have e3 : cntN ((k, n) :: m) s = cntN m s := by simp [cntN, List.lookup, hs]
        rw [e2, e2, e3]; exact ih
theorem cntN_val (m : Mn) (s : Int) : (cond false (.tup [((m.lookup s).map iv).getD (zeroA ty3), bv ((m.lookup s).map iv).isSome]) (((m.lookup s).map iv).getD (zeroA ty3))) = iv (cntN m s) := by
  unfold cntN
  cases m.lookup s <;> rfl
/-- where an instruction leads -/
def tOf (i : Ins) : Option Int := cond (decide (kdO i.op.toNat = [116])) (some i.a) (cond (decide (kdO i.op.toNat = [114, 116])) (some i.b) none)
theorem kd_t : ∀ k : Nat, k < 27 → (Lib.indexByte (kdO k) 116 = -1 ∧ (kdO k).all (fun c => decide (c ≠ 116)) = true) ∨ (Lib.indexByte (kdO k) 116 = 0 ∧ kdO k = [116]) ∨ (Lib.indexByte (kdO k) 116 = 1 ∧ kdO k = [114, 116]) := by decide +kernel
theorem hasT_of {i : Ins} (h : i.op.toNat < 27) (n : Int) : hasT i n = decide (tOf i = some n) := by
  unfold hasT tOf vals3
  rcases kd_t _ h with ⟨_, h1⟩ | ⟨_, h1⟩ | ⟨_, h1⟩
  · have e1 : ¬ kdO i.op.toNat = [116] := fun e => by rw [e] at h1; exact absurd h1 (by decide)
    have e2 : ¬ kdO i.op.toNat = [114, 116] := fun e => by rw [e] at h1; exact absurd h1 (by decide)
    rw [decide_eq_false e1, decide_eq_false e2]
    simp only [cond_false, reduceCtorEq, decide_false]
    rw [List.any_eq_false]
    intro p hp
    have := List.all_eq_true.1 h1 _ (List.of_mem_zip hp).1
    simp only [decide_eq_true_eq] at this
    simp [this]
  · rw [h1]; simp
  · rw [h1]; simp
def tSt (l : List Ins) (k : Nat) : Mn := (l.take k).foldl (fun m i => match tOf i with | some v => bumpN m v | none => m) []
theorem tSt_succ {l : List Ins} {k : Nat} (h : k < l.length) : tSt l (k + 1) = match tOf l[k] with | some v => bumpN (tSt l k) v | none => tSt l k := by
  unfold tSt
  rw [List.take_succ_eq_append_getElem h, List.foldl_append]; rfl
theorem tSt_cnt {l : List Ins} (hr : ∀ i ∈ l, i.op.toNat < 27) : ∀ k, k ≤ l.length → ∀ n, 0 ≤ cntN (tSt l k) n ∧ cntN (tSt l k) n ≤ k ∧ decide (cntN (tSt l k) n > 0) = (l.take k).any (hasT · n)
  | 0, _, n => by simp [tSt, cntN]
  | k + 1, h, n => by
    have hk : k < l.length := by omega
    have ih := tSt_cnt hr k (by omega)
    obtain ⟨i1, i2, i3⟩ := ih n
    have hh := hasT_of (hr l[k] (List.getElem_mem hk)) n
    rw [tSt_succ hk, List.take_succ_eq_append_getElem hk, List.any_append, ← i3]
    simp only [List.any_cons, List.any_nil, Bool.or_false]
    rw [hh]
    cases ht : tOf l[k] with
    | none => exact ⟨i1, by simp only; omega, by simp⟩
    | some v =>
      simp only
      rw [bumpN_cnt]
      obtain ⟨j1, j2, _⟩ := ih v
      by_cases e : v = n
      · subst e
        rw [decide_eq_true rfl]
        simp only [cond_true, decide_true, Bool.or_true, decide_eq_true_eq]
        exact ⟨by omega, by omega, by omega⟩
      · rw [decide_eq_false e]
        have : ¬ some v = some n := fun h => e (by injection h)
        rw [decide_eq_false this, Bool.or_false]
        exact ⟨i1, by simp only [cond_false]; omega, rfl⟩
def tgt (l : List Ins) : Mn := tSt l l.length
theorem tgt_is {l : List Ins} (hr : ∀ i ∈ l, i.op.toNat < 27) (n : Int) : decide (cntN (tgt l) n > 0) = isT l n := by
  have := (tSt_cnt hr l.length (Nat.le_refl _) n).2.2
  rw [List.take_length] at this
  exact this
theorem targets_ok (l : List Ins) (hl : l.length ≤ 1000000) (hr : ∀ i ∈ l, 0 ≤ i.op ∧ i.op < 27) : ACalls Tryd.prog 31 [encIs l] [] (one (.mp 0) [.vmap (encN (tgt l))]) := by
  have hop := operations_ok
  have hr' : ∀ i ∈ l, i.op.toNat < 27 := fun i hi => by have := hr i hi; omega
  unfold encIs
  refine jcalls Tryd.func31 rfl (by kernel_rfl) Tryd.ntmps31 rfl rfl (fun w0 β0 ext hβ => ?_)
  repeat (first | refine js rfl ?_ | (refine jdraw ?_ ?_; · kernel_rfl) | refine jbu rfl rfl rfl rfl ?_ | refine jo rfl rfl (map_newV) rfl rfl ?_)
  repeat (first | refine js rfl ?_ | (refine jdraw ?_ ?_; · kernel_rfl) | refine jbu rfl rfl rfl rfl ?_ | refine jv hop rfl rfl rfl rfl rfl ?_)
  refine jloop 2 (fun k : Nat => k ≤ l.length) [3, 4, 10, 11, 12] (fun k => [.mp 0, .ptr 1 0, .sl (l.map encIns), .v (.int .i64 ((l.map encIns).length : Int)), .v (.int .i64 (k : Int))])
    (fun k => [.vmap (encN (tSt l k)), .box 60 opsC]) (fun k => l.length - k) 0 (by rw [hβ]; decide) (Nat.zero_le _) rfl rfl (fun k hk => ?_)
  repeat (first | refine js rfl ?_ | (refine jdraw ?_ ?_; · kernel_rfl) | refine jbu rfl rfl rfl rfl ?_)
  refine jc rfl rfl rfl (fun h => ?_) (fun h => ?_)
  · have h := of_decide_eq_true h
    rw [List.length_map] at h
    have hk2 : k < l.length := by omega
    have hat := at_nat l k hk2
    have hnx := idx_next hk2 (by omega)
    have hst := tSt_succ hk2
    have hop2 := hr l[k] (List.getElem_mem hk2)
    have hcn := tSt_cnt hr' k hk
    repeat (first | refine js rfl ?_ | (refine jdraw ?_ ?_; · kernel_rfl) | refine jbu rfl rfl rfl rfl ?_ | refine jo rfl rfl (index_at rfl rfl rfl rfl rfl rfl rfl rfl (Int.natCast_nonneg k) h) rfl rfl ?_)
    rw [hat]
    generalize l[k] = i at *
    obtain ⟨op, a, b, c⟩ := i
    obtain ⟨q, rfl⟩ : ∃ q : Nat, op = q := ⟨op.toNat, by simp only at hop2; omega⟩
    have hq : q < 27 := by simp only at hop2; omega
    have hkd := ops_kind q hq
    have hib := indexByte_ok (kdO q) 116
    have hopn := operands_ok (q : Int) a b c
    have hkt := kd_t q hq
    unfold tOf at hst
    simp only at hst
    rw [show ((q : Int)).toNat = q from Int.toNat_natCast q] at hst
    rw [show (at' opsT (q : Int)).2 = kdO q from rfl] at hkd
    generalize kdO q = kd at *
    repeat (first | refine js rfl ?_ | (refine jdraw ?_ ?_; · kernel_rfl) | refine jbu rfl rfl rfl rfl ?_ | refine jo rfl rfl (index_arr rfl rfl rfl rfl rfl (by omega) (by omega)) rfl rfl ?_ | refine jo rfl rfl (load_dsem rfl rfl rfl hkd) rfl rfl ?_ | refine jv hib rfl rfl rfl rfl rfl ?_)
    rcases hkt with ⟨e1, h1⟩ | ⟨e1, h1⟩ | ⟨e1, h1⟩
    · rw [e1]
      have d1 : ¬ kd = [116] := fun e => by rw [e] at h1; exact absurd h1 (by decide)
      have d2 : ¬ kd = [114, 116] := fun e => by rw [e] at h1; exact absurd h1 (by decide)
      rw [decide_eq_false d1, decide_eq_false d2] at hst
      simp only [cond_false] at hst
      repeat (first | refine js rfl ?_ | (refine jdraw ?_ ?_; · kernel_rfl) | refine jbu rfl rfl rfl rfl ?_)
      refine jnext (k + 1) (by omega) (by omega) rfl rfl rfl ?_ ?_
      · rw [hnx]
      · rw [hst]; rfl
    · rw [e1]
      rw [decide_eq_true h1] at hst
      simp only [cond_true] at hst
      obtain ⟨c1, c2, _⟩ := hcn a
      have hf := encN_find (tSt l k) a
      have hks := encN_keys (tSt l k)
      have hpu := bumpN_put (tSt l k) a
      have hval := cntN_val (tSt l k) a
      have hw : IntKind.i64.wrap (cntN (tSt l k) a + 1) = cntN (tSt l k) a + 1 := wrap_id (by omega) (by omega)
      generalize hcv : cntN (tSt l k) a = cv at *
      repeat (first | refine js rfl ?_ | (refine jdraw ?_ ?_; · kernel_rfl) | refine jbu rfl rfl rfl rfl ?_ | refine jv hopn rfl rfl rfl rfl rfl ?_ | refine jo rfl rfl (index_agg rfl rfl rfl rfl rfl (by omega) (by omega) rfl) rfl rfl ?_ | refine jo rfl rfl (map_get rfl rfl rfl rfl rfl rfl rfl rfl rfl rfl hks hf hval) rfl rfl ?_)
      rw [hw]
      repeat (first | refine js rfl ?_ | (refine jdraw ?_ ?_; · kernel_rfl) | refine jbu rfl rfl rfl rfl ?_ | refine jo rfl rfl (map_put (mo' := .vmap (encN (bumpN (tSt l k) a))) (.inl rfl) rfl rfl rfl rfl rfl rfl rfl rfl rfl rfl hks hpu rfl) rfl rfl ?_)
      refine jnext (k + 1) (by omega) (by omega) rfl rfl rfl ?_ ?_
      · rw [hnx]
      · rw [hst]; rfl
    · rw [e1]
      have d1 : ¬ kd = [116] := fun e => by rw [h1] at e; exact absurd e (by decide)
      rw [decide_eq_false d1, decide_eq_true h1] at hst
      simp only [cond_true, cond_false] at hst
      obtain ⟨c1, c2, _⟩ := hcn b
      have hf := encN_find (tSt l k) b
      have hks := encN_keys (tSt l k)
      have hpu := bumpN_put (tSt l k) b
      have hval := cntN_val (tSt l k) b
      have hw : IntKind.i64.wrap (cntN (tSt l k) b + 1) = cntN (tSt l k) b + 1 := wrap_id (by omega) (by omega)
      generalize hcv : cntN (tSt l k) b = cv at *
      repeat (first | refine js rfl ?_ | (refine jdraw ?_ ?_; · kernel_rfl) | refine jbu rfl rfl rfl rfl ?_ | refine jv hopn rfl rfl rfl rfl rfl ?_ | refine jo rfl rfl (index_agg rfl rfl rfl rfl rfl (by omega) (by omega) rfl) rfl rfl ?_ | refine jo rfl rfl (map_get rfl rfl rfl rfl rfl rfl rfl rfl rfl rfl hks hf hval) rfl rfl ?_)
      rw [hw]
      repeat (first | refine js rfl ?_ | (refine jdraw ?_ ?_; · kernel_rfl) | refine jbu rfl rfl rfl rfl ?_ | refine jo rfl rfl (map_put (mo' := .vmap (encN (bumpN (tSt l k) b))) (.inl rfl) rfl rfl rfl rfl rfl rfl rfl rfl rfl rfl hks hpu rfl) rfl rfl ?_)
      refine jnext (k + 1) (by omega) (by omega) rfl rfl rfl ?_ ?_
      · rw [hnx]
      · rw [hst]; rfl
  · have h := of_decide_eq_false h
    rw [List.length_map] at h
    have hk2 : k = l.length := by omega
    subst hk2
    repeat (first | refine js rfl ?_ | (refine jdraw ?_ ?_; · kernel_rfl) | refine jbu rfl rfl rfl rfl ?_)
    exact jret [0] true rfl rfl rfl ⟨rfl, rfl⟩
end Go.AL
namespace Go.AL
open Go Go.Proofs
attribute [local irreducible] J

/-- a builder at place p -/
def bldAt (p : Nat) (u : Bool) (l : Bs) : List AObj := [.box 65 [cond u (.ptr p 0) (.v (.pointer none)), .arr (p + 1) (l.length + 1)], .arr (l.length + 1) 5 1 (l.map encB)]
def lH (g : Gl) (m : Mn) (u : Bool) (l : Bs) : List AObj := gls g ++ [.vmap (encN m), .box 56 [.mp 4]] ++ bldAt 6 u l
def labB (c : Bool) (n : Int) : Bs := cond c (([108] ++ Lib.itoa n) ++ [58, 10]) []
theorem label_ok (g : Gl) (m : Mn) (n : Int) (u : Bool) (l : Bs) (h0 : 0 ≤ n) (h1 : n ≤ 1000000000) (hl : l.length ≤ 900000) :
    ACalls Tryd.prog 33 [iv n, .ptr 5 0, .ptr 6 0] (lH g m u l) (one (.tup []) (lH g m (u || decide (cntN m n > 0)) (l ++ labB (decide (cntN m n > 0)) n))) := by
  have hf := encN_find m n
  have hks := encN_keys m
  have hval := cntN_val m n
  have hit := itoa_ok g n (by omega) (by omega)
  have hlen := itoa_len (v := n) ⟨by omega, by omega⟩
  have hw := wstr_ok u l (([108] ++ Lib.itoa n) ++ [58, 10]) (by simp) (by simp; omega)
  have e1 : ([108] : Bs).length + (Lib.itoa n).length ≤ 1000000000 := by simp; omega
  have e2 : (([108] : Bs) ++ Lib.itoa n).length + ([58, 10] : Bs).length ≤ 1000000000 := by simp; omega
  unfold lH bldAt
  unfold bld bldH adr at hw
  generalize cntN m n = cv at *
  unfold labB
  cases hc : decide (cv > 0) with
  | false =>
    simp only [Bool.or_false, cond_false, List.append_nil]
    cases u
    all_goals refine jcalls Tryd.func33 rfl (by kernel_rfl) Tryd.ntmps33 rfl rfl (fun w0 β0 ext hβ => ?_)
    all_goals (
      repeat (first | refine js rfl ?_ | (refine jdraw ?_ ?_; · kernel_rfl) | refine jbu rfl rfl rfl rfl ?_ | refine jo rfl rfl (map_get rfl rfl rfl rfl rfl rfl rfl rfl rfl rfl hks hf hval) rfl rfl ?_)
    )
    all_goals rw [hc]
    all_goals (
      repeat (first | refine js rfl ?_ | (refine jdraw ?_ ?_; · kernel_rfl) | refine jbu rfl rfl rfl rfl ?_)
    )
    all_goals exact jn rfl rfl rfl rfl
  | true =>
    simp only [Bool.or_true, cond_true]
    cases u
    all_goals refine jcalls Tryd.func33 rfl (by kernel_rfl) Tryd.ntmps33 rfl rfl (fun w0 β0 ext hβ => ?_)
    all_goals (
      repeat (first | refine js rfl ?_ | (refine jdraw ?_ ?_; · kernel_rfl) | refine jbu rfl rfl rfl rfl ?_ | refine jo rfl rfl (map_get rfl rfl rfl rfl rfl rfl rfl rfl rfl rfl hks hf hval) rfl rfl ?_)
    )
    all_goals rw [hc]
    all_goals (
      repeat (first | refine js rfl ?_ | (refine jdraw ?_ ?_; · kernel_rfl) | refine jbu rfl rfl rfl rfl ?_)
    )
    all_goals refine jb [0,1,2,3] hit rfl rfl rfl ⟨rfl, rfl, rfl, rfl, rfl, rfl⟩ rfl rfl rfl rfl ?_
    all_goals (
      repeat (first | refine js rfl ?_ | (refine jdraw ?_ ?_; · kernel_rfl) | refine jbu rfl rfl rfl rfl ?_ | refine jo rfl rfl (cat_str (a := [108]) (b := Lib.itoa n) rfl rfl e1) rfl rfl ?_ | refine jo rfl rfl (cat_str (a := [108] ++ Lib.itoa n) (b := [58, 10]) rfl rfl e2) rfl rfl ?_)
    )
    all_goals refine jb [6,7] hw rfl rfl rfl ⟨rfl, rfl, rfl, rfl, rfl, rfl⟩ rfl rfl rfl rfl ?_
    all_goals (
      repeat (first | refine js rfl ?_ | (refine jdraw ?_ ?_; · kernel_rfl) | refine jbu rfl rfl rfl rfl ?_)
    )
    all_goals exact jn rfl rfl rfl rfl
end Go.AL
