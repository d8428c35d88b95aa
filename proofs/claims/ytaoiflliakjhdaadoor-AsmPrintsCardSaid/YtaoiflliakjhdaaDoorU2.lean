/-
  Names; the lines of a text, by the library's iterator. No conditions.
-/
import Derived.Test.YtaoiflliakjhdaaDoorU1
set_option linter.unusedVariables false
set_option linter.unusedSimpArgs false
set_option maxRecDepth 100000
namespace Go.AL
open Go Go.Proofs
attribute [local irreducible] J

def nameP : Bs → Bool
  | [] => false
  | c :: r => inn (r.length + 1 : Nat) 1 12 && (inn c.toNat 97 122 && !decide (0 ≤ Lib.idxFunc notN true ⟨(c :: r).toArray⟩))
theorem isName_ok (l : Bs) : ACalls Tryd.prog 24 [sv l] [] (one (bv (nameP l)) []) := by
  cases l with
  | nil =>
    have h1 := in_ok 0 1 12
    have e : inn 0 1 12 = false := by decide
    rw [e] at h1
    unfold iv bv at h1
    unfold sv bv S
    refine jcalls Tryd.func24 rfl (by kernel_rfl) Tryd.ntmps24 rfl rfl (fun w0 β0 ext hβ => ?_)
    repeat (first | refine js rfl ?_ | (refine jdraw ?_ ?_; · kernel_rfl) | refine jbu rfl rfl rfl rfl ?_ | refine jv h1 rfl rfl rfl rfl rfl ?_)
    exact jr rfl rfl rfl rfl
  | cons c r =>
    have h1 := in_ok (r.length + 1 : Nat) 1 12
    have h2 := in_ok (IntKind.i64.wrap (c.toNat : Int)) 97 122
    have hc : (c.toNat : Int) ≤ 255 := by have := c.toNat_lt; omega
    rw [wrap_id (by omega) (by omega)] at h2
    have h2 : ACalls Tryd.prog 40 [.v (.int .i64 (IntKind.i64.wrap (c.toNat : Int))), .v (.int .i64 97), .v (.int .i64 122)] [] (one (.v (.bool (inn c.toNat 97 122))) []) := by rw [wrap_id (by omega) (by omega)]; exact h2
    have h3 := contains_ok (c :: r)
    show ACalls _ _ _ _ (one (bv (inn (r.length + 1 : Nat) 1 12 && (inn c.toNat 97 122 && !decide (0 ≤ Lib.idxFunc notN true ⟨(c :: r).toArray⟩)))) [])
    generalize inn (r.length + 1 : Nat) 1 12 = b1 at *
    generalize inn c.toNat 97 122 = b2 at *
    generalize decide (0 ≤ Lib.idxFunc notN true ⟨(c :: r).toArray⟩) = b3 at *
    unfold iv bv at h1
    unfold sv bv S at h3
    unfold sv bv S
    cases b1 <;> cases b2
    all_goals refine jcalls Tryd.func24 rfl (by kernel_rfl) Tryd.ntmps24 rfl rfl (fun w0 β0 ext hβ => ?_)
    all_goals (
      repeat (first | refine js rfl ?_ | (refine jdraw ?_ ?_; · kernel_rfl) | refine jbu rfl rfl rfl rfl ?_ | refine jv h1 rfl rfl rfl rfl rfl ?_ | refine jv h2 rfl rfl rfl rfl rfl ?_ | refine jv h3 rfl rfl rfl rfl rfl ?_ | refine jo rfl rfl (index_str rfl rfl rfl rfl (by decide) (c := c) rfl) rfl rfl ?_)
    )
    all_goals exact jr rfl rfl rfl rfl

/-! ### lines -/
def lnHead (s : Bs) : Bs := if 0 ≤ Lib.indexByte s 10 then s.take ((Lib.indexByte s 10).toNat + 1) else s
def lnTail (s : Bs) : Bs := if 0 ≤ Lib.indexByte s 10 then s.drop ((Lib.indexByte s 10).toNat + 1) else []
def chunks : Bs → List Bs
  | [] => []
  | c :: r => if c = 10 then [10] :: chunks r else match chunks r with
    | [] => [[c]]
    | h :: t => (c :: h) :: t
theorem indexByte_lt (s : Bs) (c : UInt8) : Lib.indexByte s c < s.length := by
  induction s with
  | nil => simp [Lib.indexByte]
  | cons b l ih =>
    unfold Lib.indexByte
    simp only [List.length_cons]
    split
    · omega
    · split <;> omega
theorem chunks_nil : ∀ s, chunks s = [] → s = []
  | [], _ => rfl
  | c :: r, h => by
    unfold chunks at h
    split at h
    · cases h
    · split at h <;> cases h
theorem chunks_cons : ∀ (s : Bs), s ≠ [] → chunks s = lnHead s :: chunks (lnTail s)
  | [], h => absurd rfl h
  | c :: r, _ => by
    rw [chunks]
    unfold lnHead lnTail
    by_cases hc : c = 10
    · subst hc
      have : Lib.indexByte (10 :: r) 10 = 0 := by simp [Lib.indexByte]
      simp [this]
    · have hb : (c == (10 : UInt8)) = false := by simpa using hc
      rw [if_neg hc]
      have hge := Lib.indexByte_ge r 10
      by_cases hr : r = []
      · subst hr
        have : Lib.indexByte [c] 10 = -1 := by simp [Lib.indexByte, hb]
        simp [this, chunks]
      · rw [chunks_cons r hr]
        unfold lnHead lnTail
        by_cases h0 : 0 ≤ Lib.indexByte r 10
        · have h1 : (Lib.indexByte r 10 == -1) = false := by simp; omega
          have h2 : Lib.indexByte (c :: r) 10 = Lib.indexByte r 10 + 1 := by simp only [Lib.indexByte, hb, h1]; simp
          rw [h2, if_pos h0, if_pos h0, if_pos (by omega), if_pos (by omega)]
          have : (Lib.indexByte r 10 + 1).toNat = (Lib.indexByte r 10).toNat + 1 := by omega
          rw [this]; simp
        · have h1 : Lib.indexByte r 10 = -1 := by omega
          have h2 : Lib.indexByte (c :: r) 10 = -1 := by simp [Lib.indexByte, hb, h1]
          rw [h2, h1]; simp [chunks]
def restAt (s : Bs) : Nat → Bs
  | 0 => s
  | k + 1 => lnTail (restAt s k)
theorem chunks_drop (s : Bs) : ∀ k, chunks (restAt s k) = (chunks s).drop k
  | 0 => rfl
  | k + 1 => by
    have ih := chunks_drop s k
    by_cases h : restAt s k = []
    · have : lnTail (restAt s k) = [] := by rw [h]; rfl
      show chunks (lnTail (restAt s k)) = _
      rw [h] at ih
      rw [this]
      have h2 : (chunks s).drop k = [] := ih.symm
      rw [List.drop_eq_nil_iff] at h2
      exact (List.drop_eq_nil_iff.2 (by omega)).symm
    · rw [chunks_cons _ h] at ih
      show chunks (lnTail (restAt s k)) = _
      rw [← List.drop_drop, ← ih]
      rfl
theorem rest_lt {s : Bs} {k : Nat} (h : k < (chunks s).length) : restAt s k ≠ [] ∧ (chunks s)[k] = lnHead (restAt s k) := by
  have h1 := chunks_drop s k
  have hne : restAt s k ≠ [] := fun e => by
    rw [e] at h1
    have := List.drop_eq_nil_iff.1 h1.symm
    omega
  refine ⟨hne, ?_⟩
  rw [chunks_cons _ hne] at h1
  have := congrArg (fun l => l[0]?) h1
  simp only [List.getElem?_cons_zero, List.getElem?_drop, Nat.add_zero] at this
  rw [List.getElem?_eq_getElem h] at this
  simpa using this.symm
theorem rest_end (s : Bs) : restAt s (chunks s).length = [] := chunks_nil _ (by rw [chunks_drop]; simp)
theorem rest_len (s : Bs) : ∀ k, (restAt s k).length ≤ s.length
  | 0 => Nat.le_refl _
  | k + 1 => by
    have := rest_len s k
    show (lnTail (restAt s k)).length ≤ _
    unfold lnTail
    split
    · rw [List.length_drop]; omega
    · simp

/-- strings.Lines -/
theorem lines_ok (s : Bs) : ACalls Tryd.prog 22 [sv s] [] (one (.fn (.func 53) [] [.ptr 0 0]) [.box 9 [sv s]]) := by
  refine jcalls Tryd.func22 rfl (by kernel_rfl) Tryd.ntmps22 rfl rfl (fun w0 β0 ext hβ => ?_)
  repeat (first | refine js rfl ?_ | (refine jdraw ?_ ?_; · kernel_rfl) | refine jbu rfl rfl rfl rfl ?_)
  exact jret [0] true rfl rfl rfl ⟨rfl, rfl⟩
end Go.AL
