/-
  Orders at work: what is kept of spans that are put into an order. No conditions.
-/
import Derived.Test.YthogeodbnnfamaaS32
set_option linter.unusedVariables false
set_option linter.unusedSimpArgs false
set_option maxRecDepth 100000
namespace Go.AL
open Go Go.Proofs
attribute [local irreducible] J inB right may

theorem rorder_ok (m : List Pair) (l : List Span) (hm : right m = true) (hb : l.any badSp = false) (hl : l.length ≤ 1000) :
    ACalls Try.prog 30 [.sl (m.map encP), .sl (l.map encSp)] [] (one (toldS (searchS l (l.length + 1) m [])) []) := by
  have h := rfrom_ok l hb hl (l.length + 1) m [] hm rfl (by simp) (by simp)
  generalize searchS l (l.length + 1) m [] = r at h
  unfold toldS at h ⊢
  refine jcalls Try.func30 rfl (by kernel_rfl) Try.ntmps30 rfl rfl (fun w0 β0 ext hβ => ?_)
  repeat (first | refine js rfl ?_ | (refine jdraw ?_ ?_; · kernel_rfl) | refine jbu rfl rfl rfl rfl ?_ | refine jw h rfl rfl rfl rfl rfl rfl ?_)
  exact jr rfl rfl rfl rfl
theorem ints_ok (l : List Int) (hl : l.length ≤ 1000) : ACalls Try.prog 31 [.sl (l.map encI), .sl (l.map encI)] [] (one (.v (.bool true)) []) := by
  refine jcalls Try.func31 rfl (by kernel_rfl) Try.ntmps31 rfl rfl (fun w0 β0 ext hβ => ?_)
  repeat (first | refine js rfl ?_ | (refine jdraw ?_ ?_; · kernel_rfl) | refine jbu rfl rfl rfl rfl ?_)
  refine jc rfl rfl rfl (fun h => absurd h (by simp)) (fun h => ?_)
  repeat (first | refine js rfl ?_ | (refine jdraw ?_ ?_; · kernel_rfl) | refine jbu rfl rfl rfl rfl ?_)
  refine jloop (ι := Nat) 0 (fun i => i ≤ l.length) [0, 1, 12, 13] (fun i => [.sl (l.map encI), .sl (l.map encI), .v (.int .i64 l.length), .v (.int .i64 i)]) (fun _ => []) (fun i => l.length - i) 0 (Nat.le_of_eq hβ) (by omega) (by simp only [List.length_map]; rfl) rfl ?_
  intro i hi
  repeat (first | refine js rfl ?_ | (refine jdraw ?_ ?_; · kernel_rfl) | refine jbu rfl rfl rfl rfl ?_)
  refine jc rfl rfl rfl (fun h => ?_) (fun h => ?_)
  · have h := of_decide_eq_true h
    have hi1 : i < l.length := by omega
    have w1 := idx_next hi1 (by omega)
    repeat (first | refine js rfl ?_ | (refine jdraw ?_ ?_; · kernel_rfl) | refine jbu rfl rfl rfl rfl ?_)
    refine jo rfl rfl (index_at rfl rfl rfl rfl rfl rfl rfl rfl (by omega) (by omega)) rfl rfl ?_
    repeat (first | refine js rfl ?_ | (refine jdraw ?_ ?_; · kernel_rfl) | refine jbu rfl rfl rfl rfl ?_)
    refine jo rfl rfl (index_at rfl rfl rfl rfl rfl rfl rfl rfl (by omega) (by omega)) rfl rfl ?_
    repeat (first | refine js rfl ?_ | (refine jdraw ?_ ?_; · kernel_rfl) | refine jbu rfl rfl rfl rfl ?_)
    refine jc rfl rfl rfl (fun h => absurd h (by simp)) (fun h => ?_)
    repeat (first | refine js rfl ?_ | (refine jdraw ?_ ?_; · kernel_rfl) | refine jbu rfl rfl rfl rfl ?_)
    exact jnext (i + 1) hi1 (by omega) rfl rfl rfl (by rw [w1]) rfl
  · repeat (first | refine js rfl ?_ | (refine jdraw ?_ ?_; · kernel_rfl) | refine jbu rfl rfl rfl rfl ?_)
    exact jr rfl rfl rfl rfl

/-! ### what is kept -/
def mask (p : Nat → Bool) : Nat → BitVec 64
  | 0 => 0
  | k + 1 => if p k then mask p k ||| (1#64 <<< k) else mask p k
theorem shl_bit {k i : Nat} (hi : i < 64) : (1#64 <<< k).getLsbD i = decide (i = k) := by
  rw [BitVec.getLsbD_shiftLeft]
  simp only [hi, decide_true, Bool.true_and]
  by_cases h : i = k
  · subst h; simp
  · by_cases h2 : i < k
    · simp [h, h2]
    · have h3 : ¬ i - k = 0 := by omega
      simp [h, h3, h2]
theorem mask_bit (p : Nat → Bool) {i : Nat} (hi : i < 64) : ∀ k, (mask p k).getLsbD i = (decide (i < k) && p i)
  | 0 => by simp [mask]
  | k + 1 => by
    unfold mask
    by_cases h : p k
    · rw [if_pos h, BitVec.getLsbD_or, mask_bit p hi k, shl_bit hi]
      by_cases h2 : i = k
      · subst h2; simp [h]
      · have : decide (i < k + 1) = decide (i < k) := by simp; omega
        rw [this]; simp [h2]
    · rw [if_neg h, mask_bit p hi k]
      by_cases h2 : i = k
      · subst h2; simp [h]
      · have : decide (i < k + 1) = decide (i < k) := by simp; omega
        rw [this]
def mustM (l : List Span) (k : Nat) : BitVec 64 := mask (fun i => decide ((at' l (i : Int)).to ≥ 0)) k
def aheadM (l : List Span) (i k : Nat) : BitVec 64 := mask (fun j => before (at' l (j : Int)) (at' l (i : Int))) k
def spCells (s : Span) : List AVal := [.v (.int .i64 s.th), .v (.int .i64 s.n), .v (.int .i64 s.call.kind), .v (.int .i64 s.call.key), .v (.int .i64 s.call.value), .v (.int .i64 s.call.old), .v (.int .i64 s.reply.why), .v (.int .i64 s.reply.value), .v (.int .i64 s.frm), .v (.int .i64 s.to)]
/-- the cells of what is kept -/
def lookC (n : Int) (S : Nat → Span) (A : Nat → BitVec 64) (must : BitVec 64) : List AVal :=
  .v (.int .i64 n) :: (spCells (S 0) ++ (spCells (S 1) ++ (spCells (S 2) ++ (spCells (S 3) ++ (spCells (S 4) ++ (spCells (S 5) ++ (spCells (S 6) ++ (spCells (S 7) ++
    [u64A (A 0), u64A (A 1), u64A (A 2), u64A (A 3), u64A (A 4), u64A (A 5), u64A (A 6), u64A (A 7), u64A must]))))))))
theorem look_ahead {n : Int} {S : Nat → Span} {A : Nat → BitVec 64} {must : BitVec 64} {i off : Nat} (h : i < 8) (ho : off = 81 + i) : takeA ty87 (lookC n S A must) off = some (u64A (A i)) := by
  subst ho
  have : i = 0 ∨ i = 1 ∨ i = 2 ∨ i = 3 ∨ i = 4 ∨ i = 5 ∨ i = 6 ∨ i = 7 := by omega
  rcases this with rfl | rfl | rfl | rfl | rfl | rfl | rfl | rfl <;> rfl
theorem look_span {n : Int} {S : Nat → Span} {A : Nat → BitVec 64} {must : BitVec 64} {i off : Nat} (h : i < 8) (ho : off = 1 + i * 10) : takeA ty65 (lookC n S A must) off = some (encSp (S i)) := by
  subst ho
  have : i = 0 ∨ i = 1 ∨ i = 2 ∨ i = 3 ∨ i = 4 ∨ i = 5 ∨ i = 6 ∨ i = 7 := by omega
  rcases this with rfl | rfl | rfl | rfl | rfl | rfl | rfl | rfl <;> rfl
def upd (A : Nat → BitVec 64) (i : Nat) (x : BitVec 64) (j : Nat) : BitVec 64 := if j = i then x else A j
theorem look_set {n : Int} {S : Nat → Span} {A : Nat → BitVec 64} {must : BitVec 64} {i : Nat} (h : i < 8) (x : BitVec 64) : spliceA (lookC n S A must) (81 + i) [u64A x] = lookC n S (upd A i x) must := by
  have : i = 0 ∨ i = 1 ∨ i = 2 ∨ i = 3 ∨ i = 4 ∨ i = 5 ∨ i = 6 ∨ i = 7 := by omega
  rcases this with rfl | rfl | rfl | rfl | rfl | rfl | rfl | rfl <;> rfl
theorem off1_eq (i : Nat) : 80 + 1 + (i : Int).toNat * 1 = 81 + i := by simp
theorem off2_eq (i : Nat) : 0 + 1 + (i : Int).toNat * 10 = 1 + i * 10 := by simp
def aheadK (l : List Span) (i k j : Nat) : BitVec 64 := if j < i then aheadM l j l.length else if j = i then aheadM l i k else 0
def aheadL (l : List Span) (i j : Nat) : BitVec 64 := if j < i then aheadM l j l.length else 0
theorem aheadK_zero (l : List Span) (i : Nat) : aheadK l i 0 = aheadL l i := by
  funext j; unfold aheadK aheadL
  split
  · rfl
  · split <;> rfl
theorem aheadK_full (l : List Span) (i : Nat) : aheadK l i l.length = aheadL l (i + 1) := by
  funext j; unfold aheadK aheadL
  by_cases h1 : j < i
  · rw [if_pos h1, if_pos (by omega)]
  · by_cases h2 : j = i
    · subst h2; rw [if_neg h1, if_pos rfl, if_pos (by omega)]
    · rw [if_neg h1, if_neg h2, if_neg (by omega)]
theorem look_step {n : Int} {S : Nat → Span} {must : BitVec 64} {l : List Span} {i k off : Nat} (h : i < 8) (ho : off = 81 + i) {x : BitVec 64} (hx : aheadM l i (k + 1) = x) : spliceA (lookC n S (aheadK l i k) must) off [u64A x] = lookC n S (aheadK l i (k + 1)) must := by
  subst ho
  rw [look_set h]
  congr 1
  funext j
  unfold upd aheadK
  by_cases h2 : j = i
  · subst h2; simp [hx]
  · simp [h2]
def spanAt (l : List Span) (i : Nat) : Span := at' l (i : Int)
theorem look_copy (l : List Span) (h : l.length ≤ 8) (n : Int) (A : Nat → BitVec 64) (must : BitVec 64) : spliceA (lookC n (fun _ => default) A must) 1 ((l.map encSp).flatMap AVal.cells) = lookC n (spanAt l) A must := by
  match l, h with
  | [], _ => rfl
  | [_], _ => rfl
  | [_, _], _ => rfl
  | [_, _, _], _ => rfl
  | [_, _, _, _], _ => rfl
  | [_, _, _, _, _], _ => rfl
  | [_, _, _, _, _, _], _ => rfl
  | [_, _, _, _, _, _, _], _ => rfl
  | [_, _, _, _, _, _, _, _], _ => rfl
  | _ :: _ :: _ :: _ :: _ :: _ :: _ :: _ :: _ :: _, h => simp at h
theorem newLook_bad (m : List Pair) (l : List Span) (hm : m.length ≤ 1000000) (hl : l.length ≤ 1000000) (e : Int) (he : (if l.length > 8 then 2 else if right m = true ∧ l.any badSp = false then 0 else 1) = e) (h0 : e ≠ 0) :
    ACalls Try.prog 43 [.sl (m.map encP), .sl (l.map encSp)] [] (one (.tup [.v (.pointer none), .v (.int .i64 e)]) []) := by
  have h1 := right_ok m hm
  have h2 := contains_ok l hl
  subst he
  by_cases h8 : l.length > 8
  · rw [if_pos h8] at h0 ⊢
    refine jcalls Try.func43 rfl (by kernel_rfl) Try.ntmps43 rfl rfl (fun w0 β0 ext hβ => ?_)
    repeat (first | refine js rfl ?_ | (refine jdraw ?_ ?_; · kernel_rfl) | refine jbu rfl rfl rfl rfl ?_)
    refine jc rfl rfl rfl (fun h => ?_) (fun h => ?_)
    · repeat (first | refine js rfl ?_ | (refine jdraw ?_ ?_; · kernel_rfl) | refine jbu rfl rfl rfl rfl ?_)
      exact jr rfl rfl rfl rfl
    · have h := of_decide_eq_false h
      simp at h; omega
  · rw [if_neg h8] at h0 ⊢
    cases hr : right m <;> rw [hr] at h1
    · refine jcalls Try.func43 rfl (by kernel_rfl) Try.ntmps43 rfl rfl (fun w0 β0 ext hβ => ?_)
      repeat (first | refine js rfl ?_ | (refine jdraw ?_ ?_; · kernel_rfl) | refine jbu rfl rfl rfl rfl ?_)
      refine jc rfl rfl rfl (fun h => ?_) (fun h => ?_)
      · have h := of_decide_eq_true h
        simp at h; omega
      repeat (first | refine js rfl ?_ | (refine jdraw ?_ ?_; · kernel_rfl) | refine jbu rfl rfl rfl rfl ?_ | refine jv h1 rfl rfl rfl rfl rfl ?_)
      exact jr rfl rfl rfl rfl
    · cases hbb : l.any badSp <;> rw [hbb] at h2
      · simp [hr, hbb] at h0
      · refine jcalls Try.func43 rfl (by kernel_rfl) Try.ntmps43 rfl rfl (fun w0 β0 ext hβ => ?_)
        repeat (first | refine js rfl ?_ | (refine jdraw ?_ ?_; · kernel_rfl) | refine jbu rfl rfl rfl rfl ?_)
        refine jc rfl rfl rfl (fun h => ?_) (fun h => ?_)
        · have h := of_decide_eq_true h
          simp at h; omega
        repeat (first | refine js rfl ?_ | (refine jdraw ?_ ?_; · kernel_rfl) | refine jbu rfl rfl rfl rfl ?_ | refine jv h1 rfl rfl rfl rfl rfl ?_ | refine jv h2 rfl rfl rfl rfl rfl ?_)
        exact jr rfl rfl rfl rfl
theorem newLook_ok (m : List Pair) (l : List Span) (hm : right m = true) (hb : l.any badSp = false) (hl : l.length ≤ 8) :
    ACalls Try.prog 43 [.sl (m.map encP), .sl (l.map encSp)] [] (one (.tup [.ptr 0 0, .v (.int .i64 0)]) [.box 91 (lookC l.length (spanAt l) (aheadL l l.length) (mustM l l.length))]) := by
  have h1 := right_ok m (by have := right_len hm; omega)
  have h2 := contains_ok l (by omega)
  rw [hm] at h1
  rw [hb] at h2
  refine jcalls Try.func43 rfl (by kernel_rfl) Try.ntmps43 rfl rfl (fun w0 β0 ext hβ => ?_)
  repeat (first | refine js rfl ?_ | (refine jdraw ?_ ?_; · kernel_rfl) | refine jbu rfl rfl rfl rfl ?_)
  refine jc rfl rfl rfl (fun h => ?_) (fun h => ?_)
  · have h := of_decide_eq_true h
    simp at h; omega
  repeat (first | refine js rfl ?_ | (refine jdraw ?_ ?_; · kernel_rfl) | refine jbu rfl rfl rfl rfl ?_ | refine jv h1 rfl rfl rfl rfl rfl ?_ | refine jv h2 rfl rfl rfl rfl rfl ?_)
  refine jo rfl rfl (slice_box 0 8 rfl rfl rfl rfl rfl rfl (by omega) (by omega) (by omega)) rfl rfl ?_
  repeat (first | refine js rfl ?_ | (refine jdraw ?_ ?_; · kernel_rfl) | refine jbu rfl rfl rfl rfl ?_)
  have hsrc : ∀ H, SrcK H 10 l.length (.sl (l.map encSp)) (l.map encSp) l.length := fun H => by
    have := SrcK.of (H := H) (k := l.length) (.sl (rfl : xsOf (.sl (l.map encSp)) = some (l.map encSp))) (elems_map (s := 10) l fun _ => ⟨rfl, rfl⟩) (by simp)
    have e : (l.map encSp).take l.length = l.map encSp := by rw [List.take_of_length_le]; simp
    rw [e, List.length_map] at this
    exact this
  refine jo rfl rfl (copy_box (cs := lookC (l.map encSp).length (fun _ => default) (fun _ => 0) 0) rfl rfl rfl (hsrc _) rfl rfl rfl (by omega) (elems_map l fun _ => ⟨rfl, rfl⟩) (Nat.le_of_ble_eq_true rfl) rfl) rfl rfl ?_
  refine jheap [.box 91 (lookC l.length (spanAt l) (fun _ => 0) 0)] (by rw [← look_copy l hl, List.length_map]; rfl) ?_
  repeat (first | refine js rfl ?_ | (refine jdraw ?_ ?_; · kernel_rfl) | refine jbu rfl rfl rfl rfl ?_)
  refine jloop (ι := Nat) 1 (fun i => i ≤ l.length) [1, 7, 33, 34, 35] (fun i => [.sl (l.map encSp), .ptr 0 0, .sl (l.map encSp), .v (.int .i64 l.length), .v (.int .i64 i)]) (fun i => [.box 91 (lookC l.length (spanAt l) (aheadL l i) (mustM l i))]) (fun i => l.length - i) 0 (by rw [hβ]; decide) (by omega) (by simp only [List.length_map]; rfl) rfl ?_
  intro i hi
  repeat (first | refine js rfl ?_ | (refine jdraw ?_ ?_; · kernel_rfl) | refine jbu rfl rfl rfl rfl ?_)
  refine jc rfl rfl rfl (fun h => ?_) (fun h => ?_)
  · have h := of_decide_eq_true h
    have hi1 : i < l.length := by omega
    have w1 := idx_next hi1 (by omega)
    have hmu : mustM l (i + 1) = if decide ((at' l (i : Int)).to ≥ 0) then mustM l i ||| (1#64 <<< i) else mustM l i := rfl
    repeat (first | refine js rfl ?_ | (refine jdraw ?_ ?_; · kernel_rfl) | refine jbu rfl rfl rfl rfl ?_)
    refine jo rfl rfl (index_at rfl rfl rfl rfl rfl rfl rfl rfl (by omega) (by omega)) rfl rfl ?_
    repeat (first | refine js rfl ?_ | (refine jdraw ?_ ?_; · kernel_rfl) | refine jbu rfl rfl rfl rfl ?_)
    refine jmid [1, 7, 8, 9, 33, 34, 35] [.sl (l.map encSp), .ptr 0 0, .v (.int .i64 i), .ptr 1 0, .sl (l.map encSp), .v (.int .i64 l.length), .v (.int .i64 i)]
      [.box 91 (lookC l.length (spanAt l) (aheadL l i) (mustM l (i + 1))), .box 65 (spCells (at' l (i : Int)))] ?_ ?_
    · refine jc rfl rfl rfl (fun h2 => ?_) (fun h2 => ?_)
      · rw [hmu, if_pos h2]
        repeat (first | refine jo rfl rfl (u64_bit_op rfl rfl (by omega)) rfl rfl ?_ | refine jo rfl rfl (u64_or_op rfl rfl) rfl rfl ?_ | refine js rfl ?_ | (refine jdraw ?_ ?_; · kernel_rfl) | refine jbu rfl rfl rfl rfl ?_)
        exact jmeet rfl rfl
      · rw [hmu, if_neg (by rw [h2]; decide)]
        repeat (first | refine js rfl ?_ | (refine jdraw ?_ ?_; · kernel_rfl) | refine jbu rfl rfl rfl rfl ?_)
        exact jmeet rfl rfl
    repeat (first | refine js rfl ?_ | (refine jdraw ?_ ?_; · kernel_rfl) | refine jbu rfl rfl rfl rfl ?_)
    refine jloop (ι := Nat) 2 (fun k => k ≤ l.length) [1, 7, 8, 9, 33, 34, 35, 52, 53, 54] (fun k => [.sl (l.map encSp), .ptr 0 0, .v (.int .i64 i), .ptr 1 0, .sl (l.map encSp), .v (.int .i64 l.length), .v (.int .i64 i), .sl (l.map encSp), .v (.int .i64 l.length), .v (.int .i64 k)])
      (fun k => [.box 91 (lookC l.length (spanAt l) (aheadK l i k) (mustM l (i + 1))), .box 65 (spCells (at' l (i : Int)))]) (fun k => l.length - k) 0 (by rw [hβ]; decide) (by omega) (by simp only [List.length_map]; rfl) ?_ ?_
    · rw [aheadK_zero]
    intro k hk
    repeat (first | refine js rfl ?_ | (refine jdraw ?_ ?_; · kernel_rfl) | refine jbu rfl rfl rfl rfl ?_)
    refine jc rfl rfl rfl (fun h => ?_) (fun h => ?_)
    · have h := of_decide_eq_true h
      have hk1 : k < l.length := by omega
      have w2 := idx_next hk1 (by omega)
      have hbf := before_ok (at' l (k : Int)) (at' l (i : Int))
      have hau : aheadM l i (k + 1) = if before (at' l (k : Int)) (at' l (i : Int)) then aheadM l i k ||| (1#64 <<< k) else aheadM l i k := rfl
      repeat (first | refine js rfl ?_ | (refine jdraw ?_ ?_; · kernel_rfl) | refine jbu rfl rfl rfl rfl ?_)
      refine jo rfl rfl (index_at rfl rfl rfl rfl rfl rfl rfl rfl (by omega) (by omega)) rfl rfl ?_
      cases hbb : before (at' l (k : Int)) (at' l (i : Int)) <;> rw [hbb] at hbf hau
      · repeat (first | refine js rfl ?_ | (refine jdraw ?_ ?_; · kernel_rfl) | refine jbu rfl rfl rfl rfl ?_ | refine jv hbf rfl rfl rfl rfl rfl ?_)
        refine jnext (k + 1) hk1 (by omega) rfl rfl rfl (by rw [w2]) ?_
        have e : aheadK l i (k + 1) = aheadK l i k := by unfold aheadK; rw [hau]; rfl
        rw [e]; rfl
      · repeat (first | refine js rfl ?_ | (refine jdraw ?_ ?_; · kernel_rfl) | refine jbu rfl rfl rfl rfl ?_ | refine jv hbf rfl rfl rfl rfl rfl ?_)
        refine jo rfl rfl (index_arr rfl rfl rfl rfl rfl (by omega) (by omega)) rfl rfl ?_
        refine jo rfl rfl (load_dsem rfl rfl rfl (look_ahead (n := l.length) (S := spanAt l) (A := aheadK l i k) (must := mustM l (i + 1)) (i := i) (by omega) (off1_eq i))) rfl rfl ?_
        refine jre 67 (u64A (aheadM l i k)) rfl rfl (by unfold aheadK; simp) ?_
        repeat (first | refine jo rfl rfl (u64_bit_op rfl rfl (by omega)) rfl rfl ?_ | refine jo rfl rfl (u64_or_op rfl rfl) rfl rfl ?_ | refine js rfl ?_ | (refine jdraw ?_ ?_; · kernel_rfl) | refine jbu rfl rfl rfl rfl ?_)
        refine jo rfl rfl (index_arr rfl rfl rfl rfl rfl (by omega) (by omega)) rfl rfl ?_
        refine jo rfl rfl (store_at (cs := lookC l.length (spanAt l) (aheadK l i k) (mustM l (i + 1))) rfl rfl rfl rfl rfl rfl ?_ (look_step (i := i) (by omega) (off1_eq i) (by rw [hau]; rfl)) rfl) rfl rfl ?_
        · have : 80 + 1 + (i : Int).toNat * 1 + 1 ≤ 90 := by simp; omega
          exact this
        repeat (first | refine js rfl ?_ | (refine jdraw ?_ ?_; · kernel_rfl) | refine jbu rfl rfl rfl rfl ?_)
        exact jnext (k + 1) hk1 (by omega) rfl rfl rfl (by rw [w2]) rfl
    · have h := of_decide_eq_false h
      have hk2 : k = l.length := by omega
      subst hk2
      repeat (first | refine js rfl ?_ | (refine jdraw ?_ ?_; · kernel_rfl) | refine jbu rfl rfl rfl rfl ?_)
      refine jnext (i + 1) hi1 (by omega) rfl rfl rfl (by rw [w1]) ?_
      rw [← aheadK_full]; rfl
  · have h := of_decide_eq_false h
    have hi2 : i = l.length := by omega
    subst hi2
    repeat (first | refine js rfl ?_ | (refine jdraw ?_ ?_; · kernel_rfl) | refine jbu rfl rfl rfl rfl ?_)
    exact jret [0] true rfl rfl rfl ⟨rfl, rfl⟩
end Go.AL
