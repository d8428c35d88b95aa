/-
  What a row leads to, and the search for the first order. No conditions.
-/
import Derived.Test.YthogeodbnnfamaaS34
set_option linter.unusedVariables false
set_option linter.unusedSimpArgs false
set_option maxRecDepth 100000
namespace Go.AL
open Go Go.Proofs
attribute [local irreducible] J inB right may

theorem nextB_right {m : List Pair} {l : List Span} (hm : right m = true) (hb : l.any badSp = false) (row : List Int) {n : Nat} (hn : n < l.length) : right (nextB l m row n).1 = true := by
  unfold nextB
  split
  · exact next_right hm (may_of hb hn)
  · exact right_iff.2 ⟨by simp, by simp⟩
theorem mapS_next {l : List Span} {m : List Pair} {pre rest : List Int} {k : Nat} (hk : k < l.length) : mapS l m pre ((k : Int) :: rest) = if (nextB l m pre k).2 then mapS l (nextB l m pre k).1 (pre ++ [(k : Int)]) rest else ([], false) := by
  rw [mapS_cons, Int.toNat_natCast]
  unfold nextB
  cases freeB l pre k
  · simp
  · rw [if_pos ⟨by omega, by omega, rfl⟩]; simp

theorem follow_ok (m : List Pair) (l : List Span) (row : List Int) (hm : right m = true) (hb : l.any badSp = false) (hl : l.length ≤ 8) (hr : row.length ≤ 1000) :
    ACalls Try.prog 47 [.ptr 0 0, .sl (m.map encP), .sl (row.map encI)] [.box 91 (lookF l)] (one (.tup [.sl ((mapS l m [] row).1.map encP), .v (.bool (mapS l m [] row).2)]) [.box 91 (lookF l)]) := by
  refine jcalls Try.func47 rfl (by kernel_rfl) Try.ntmps47 rfl rfl (fun w0 β0 ext hβ => ?_)
  repeat (first | refine js rfl ?_ | (refine jdraw ?_ ?_; · kernel_rfl) | refine jbu rfl rfl rfl rfl ?_)
  refine jloop (ι := Nat × List Pair × BitVec 64) 1 (fun z => z.1 ≤ row.length ∧ right z.2.1 = true ∧ Bits z.2.2 (row.take z.1) ∧ mapS l m [] row = mapS l z.2.1 (row.take z.1) (row.drop z.1)) [0, 1, 2, 8, 13, 14, 15]
    (fun z => [.ptr 0 0, .sl (z.2.1.map encP), .sl (row.map encI), u64A z.2.2, .sl (row.map encI), .v (.int .i64 row.length), .v (.int .i64 z.1)]) (fun _ => [.box 91 (lookF l)]) (fun z => row.length - z.1) (0, m, 0) (Nat.le_of_eq hβ) ⟨by simp, hm, fun i hi => by simp, rfl⟩ (by simp only [List.length_map]; rfl) rfl ?_
  rintro ⟨i, n, d⟩ ⟨hi, hn, hd, hv⟩
  dsimp only at hi hn hd hv
  repeat (first | refine js rfl ?_ | (refine jdraw ?_ ?_; · kernel_rfl) | refine jbu rfl rfl rfl rfl ?_)
  refine jc rfl rfl rfl (fun h => ?_) (fun h => ?_)
  · have h := of_decide_eq_true h
    dsimp only at h
    have hi1 : i < row.length := by omega
    have w1 := idx_next hi1 (by omega)
    rw [List.drop_eq_getElem_cons hi1, ← at_nat row i hi1] at hv
    have htk : row.take (i + 1) = row.take i ++ [at' row (i : Int)] := by rw [at_nat row i hi1]; exact List.take_succ_eq_append_getElem hi1
    repeat (first | refine js rfl ?_ | (refine jdraw ?_ ?_; · kernel_rfl) | refine jbu rfl rfl rfl rfl ?_)
    refine jo rfl rfl (index_at rfl rfl rfl rfl rfl rfl rfl rfl (by dsimp only; omega) (by dsimp only; omega)) rfl rfl ?_
    generalize at' row (i : Int) = q at hv htk
    repeat (first | refine js rfl ?_ | (refine jdraw ?_ ?_; · kernel_rfl) | refine jbu rfl rfl rfl rfl ?_)
    refine jg rfl rfl rfl rfl (fun h1 => ?_) (fun h1 => ?_)
    · have h1 := of_decide_eq_true h1
      rw [mapS_cons, if_neg (by omega)] at hv
      repeat (first | refine js rfl ?_ | (refine jdraw ?_ ?_; · kernel_rfl) | refine jbu rfl rfl rfl rfl ?_)
      rw [hv]
      exact jr rfl rfl rfl rfl
    have h1 := of_decide_eq_false h1
    repeat (first | refine js rfl ?_ | (refine jdraw ?_ ?_; · kernel_rfl) | refine jbu rfl rfl rfl rfl ?_)
    refine jc rfl rfl rfl (fun h2 => ?_) (fun h2 => ?_)
    · have h2 := of_decide_eq_true h2
      rw [mapS_cons, if_neg (by omega)] at hv
      repeat (first | refine js rfl ?_ | (refine jdraw ?_ ?_; · kernel_rfl) | refine jbu rfl rfl rfl rfl ?_)
      rw [hv]
      exact jr rfl rfl rfl rfl
    have h2 := of_decide_eq_false h2
    obtain ⟨k, rfl⟩ : ∃ k : Nat, q = k := ⟨q.toNat, by omega⟩
    have hk : k < l.length := by omega
    have hnx := next_ok n l hn hb hl d (row.take i) hd k hk
    have hnr := nextB_right hn hb (row.take i) hk
    have hd2 := hd.push k
    rw [← htk] at hd2
    rw [mapS_next hk, ← htk] at hv
    generalize nextB l n (row.take i) k = z at hnx hnr hv
    obtain ⟨x, b⟩ := z
    repeat (first | refine js rfl ?_ | (refine jdraw ?_ ?_; · kernel_rfl) | refine jbu rfl rfl rfl rfl ?_)
    refine jb [0] hnx rfl rfl rfl ⟨rfl, rfl, rfl, rfl, rfl, rfl⟩ rfl rfl rfl rfl ?_
    cases b
    · rw [if_neg (by simp)] at hv
      repeat (first | refine js rfl ?_ | (refine jdraw ?_ ?_; · kernel_rfl) | refine jbu rfl rfl rfl rfl ?_)
      rw [hv]
      exact jr rfl rfl rfl rfl
    · rw [if_pos rfl] at hv
      repeat (first | refine jo rfl rfl (u64_bit_op rfl rfl (by omega)) rfl rfl ?_ | refine jo rfl rfl (u64_or_op rfl rfl) rfl rfl ?_ | refine js rfl ?_ | (refine jdraw ?_ ?_; · kernel_rfl) | refine jbu rfl rfl rfl rfl ?_)
      exact jnext (i + 1, x, d ||| 1#64 <<< k) ⟨hi1, hnr, hd2, hv⟩ (by dsimp only; omega) rfl rfl rfl (by rw [w1]; rfl) rfl
  · have h := of_decide_eq_false h
    dsimp only at h
    have hi2 : i = row.length := by omega
    subst hi2
    rw [List.drop_length, List.take_length] at hv
    rw [List.take_length] at hd
    rw [hv]
    have hw := whole_bits hl hd
    repeat (first | refine jo rfl rfl (u64_andNot_op rfl rfl) rfl rfl ?_ | refine js rfl ?_ | (refine jdraw ?_ ?_; · kernel_rfl) | refine jbu rfl rfl rfl rfl ?_)
    refine jr rfl rfl ?_ rfl
    show AVal.tup [.sl (n.map encP), .v (.bool (((mustM l l.length &&& ~~~d).toNat : Int) == 0))] = .tup [.sl (n.map encP), .v (.bool (wholeB l row))]
    rw [hw, show (((mustM l l.length &&& ~~~d).toNat : Int) == 0) = decide (mustM l l.length &&& ~~~d = 0) by rw [Bool.eq_iff_iff, u64_eq, decide_eq_true_iff]]

def errL (m : List Pair) (l : List Span) : Int := if l.length > 8 then 2 else if right m = true ∧ l.any badSp = false then 0 else 1
theorem check_ok (m : List Pair) (l : List Span) (row : List Int) (hm : m.length ≤ 1000000) (hl : l.length ≤ 1000000) (hr : row.length ≤ 1000) :
    ACalls Try.prog 32 [.sl (m.map encP), .sl (l.map encSp), .sl (row.map encI)] [] (one (.tup [.v (.bool (decide (errL m l = 0) && (mapS l m [] row).2)), .v (.int .i64 (errL m l))]) []) := by
  by_cases h0 : errL m l = 0
  · have h1 : l.length ≤ 8 ∧ right m = true ∧ l.any badSp = false := by unfold errL at h0; grind
    obtain ⟨h1, h2, h3⟩ := h1
    have hnew := newLook_ok m l h2 h3 h1
    have hf := follow_ok m l row h2 h3 h1 hr
    rw [h0]
    generalize mapS l m [] row = z at hf
    obtain ⟨x, b⟩ := z
    refine jcalls Try.func32 rfl (by kernel_rfl) Try.ntmps32 rfl rfl (fun w0 β0 ext hβ => ?_)
    repeat (first | refine js rfl ?_ | (refine jdraw ?_ ?_; · kernel_rfl) | refine jbu rfl rfl rfl rfl ?_)
    refine jb [] hnew rfl rfl rfl ⟨rfl, rfl, rfl, rfl, rfl, rfl⟩ rfl rfl rfl rfl ?_
    repeat (first | refine js rfl ?_ | (refine jdraw ?_ ?_; · kernel_rfl) | refine jbu rfl rfl rfl rfl ?_)
    refine jb [0] hf rfl rfl rfl ⟨rfl, rfl, rfl, rfl, rfl, rfl⟩ rfl rfl rfl rfl ?_
    repeat (first | refine js rfl ?_ | (refine jdraw ?_ ?_; · kernel_rfl) | refine jbu rfl rfl rfl rfl ?_)
    exact jr rfl rfl rfl rfl
  · have hnew := newLook_bad m l hm hl (errL m l) rfl h0
    generalize errL m l = e at h0 hnew
    refine jcalls Try.func32 rfl (by kernel_rfl) Try.ntmps32 rfl rfl (fun w0 β0 ext hβ => ?_)
    repeat (first | refine js rfl ?_ | (refine jdraw ?_ ?_; · kernel_rfl) | refine jbu rfl rfl rfl rfl ?_ | refine jv hnew rfl rfl rfl rfl rfl ?_)
    refine jc rfl rfl rfl (fun h => ?_) (fun h => absurd h (by simpa using h0))
    repeat (first | refine js rfl ?_ | (refine jdraw ?_ ?_; · kernel_rfl) | refine jbu rfl rfl rfl rfl ?_)
    refine jr rfl rfl ?_ rfl
    rw [decide_eq_false h0]; rfl
theorem lmap_ok (m : List Pair) (l : List Span) (row : List Int) (hm : m.length ≤ 1000000) (hl : l.length ≤ 1000000) (hr : row.length ≤ 1000) :
    ACalls Try.prog 33 [.sl (m.map encP), .sl (l.map encSp), .sl (row.map encI)] [] (one (.tup [.sl ((if errL m l = 0 ∧ (mapS l m [] row).2 = true then (mapS l m [] row).1 else []).map encP), .v (.int .i64 (if errL m l = 0 then (if (mapS l m [] row).2 then 0 else 8) else errL m l))]) []) := by
  by_cases h0 : errL m l = 0
  · have h1 : l.length ≤ 8 ∧ right m = true ∧ l.any badSp = false := by unfold errL at h0; grind
    obtain ⟨h1, h2, h3⟩ := h1
    have hnew := newLook_ok m l h2 h3 h1
    have hf := follow_ok m l row h2 h3 h1 hr
    rw [h0]
    generalize mapS l m [] row = z at hf
    obtain ⟨x, b⟩ := z
    cases b
    all_goals
      simp only [true_and, if_true, Bool.false_eq_true, if_false]
      refine jcalls Try.func33 rfl (by kernel_rfl) Try.ntmps33 rfl rfl (fun w0 β0 ext hβ => ?_)
      repeat (first | refine js rfl ?_ | (refine jdraw ?_ ?_; · kernel_rfl) | refine jbu rfl rfl rfl rfl ?_)
      refine jb [] hnew rfl rfl rfl ⟨rfl, rfl, rfl, rfl, rfl, rfl⟩ rfl rfl rfl rfl ?_
      repeat (first | refine js rfl ?_ | (refine jdraw ?_ ?_; · kernel_rfl) | refine jbu rfl rfl rfl rfl ?_)
      refine jb [0] hf rfl rfl rfl ⟨rfl, rfl, rfl, rfl, rfl, rfl⟩ rfl rfl rfl rfl ?_
      repeat (first | refine js rfl ?_ | (refine jdraw ?_ ?_; · kernel_rfl) | refine jbu rfl rfl rfl rfl ?_)
      exact jr rfl rfl rfl rfl
  · have hnew := newLook_bad m l hm hl (errL m l) rfl h0
    generalize errL m l = e at h0 hnew
    rw [if_neg (by simp [h0]), if_neg h0]
    refine jcalls Try.func33 rfl (by kernel_rfl) Try.ntmps33 rfl rfl (fun w0 β0 ext hβ => ?_)
    repeat (first | refine js rfl ?_ | (refine jdraw ?_ ?_; · kernel_rfl) | refine jbu rfl rfl rfl rfl ?_ | refine jv hnew rfl rfl rfl rfl rfl ?_)
    refine jc rfl rfl rfl (fun h => ?_) (fun h => absurd h (by simpa using h0))
    repeat (first | refine js rfl ?_ | (refine jdraw ?_ ?_; · kernel_rfl) | refine jbu rfl rfl rfl rfl ?_)
    exact jr rfl rfl rfl rfl
end Go.AL
