/-
  Calls one behind the other, in plain words. No conditions.
-/
import Derived.Test.YthogeodbnnfamaaS42
set_option linter.unusedVariables false
set_option linter.unusedSimpArgs false
set_option maxRecDepth 100000
namespace Go.AL
open Go Go.Proofs
attribute [local irreducible] inB right may

/-- spans one behind the other: those of calls, with replies -/
def rowSp (cs : List Call) (rs : List Reply) : List Span := (List.range cs.length).map fun (i : Nat) => ⟨(i : Int) % 2, (i : Int) / 2, at' cs (i : Int), at' rs (i : Int), 2 * i, 2 * i + 1⟩
theorem row_len (cs : List Call) (rs : List Reply) : (rowSp cs rs).length = cs.length := by simp [rowSp]
theorem row_at (cs : List Call) (rs : List Reply) {i : Nat} (h : i < cs.length) : at' (rowSp cs rs) (i : Int) = ⟨(i : Int) % 2, (i : Int) / 2, at' cs (i : Int), at' rs (i : Int), 2 * i, 2 * i + 1⟩ := by
  rw [at_nat _ i (by rw [row_len]; exact h)]
  simp [rowSp]
/-- rows of spans whose times are one behind the other -/
def Seq (l : List Span) : Prop := ∀ i : Nat, i < l.length → (at' l (i : Int)).frm = 2 * i ∧ (at' l (i : Int)).to = 2 * i + 1
theorem row_seq (cs : List Call) (rs : List Reply) : Seq (rowSp cs rs) := fun i hi => by
  rw [row_len] at hi
  rw [row_at cs rs hi]; exact ⟨rfl, rfl⟩
theorem seq_before {l : List Span} (h : Seq l) {i j : Nat} (hi : i < l.length) (hj : j < l.length) : before (at' l (i : Int)) (at' l (j : Int)) = decide (i < j) := by
  unfold before
  rw [(h i hi).2, (h j hj).1, Bool.eq_iff_iff]
  simp; omega
/-- the first k numbers -/
def upI (k : Nat) : List Int := (List.range k).map fun (i : Nat) => (i : Int)
theorem upI_succ (k : Nat) : upI (k + 1) = upI k ++ [(k : Int)] := by simp [upI, List.range_succ]
theorem upI_len (k : Nat) : (upI k).length = k := by simp [upI]
theorem upI_contains (k i : Nat) : (upI k).contains (i : Int) = decide (i < k) := by
  rw [Bool.eq_iff_iff]
  simp only [List.contains_eq_mem, decide_eq_true_eq, upI, List.mem_map, List.mem_range]
  constructor
  · rintro ⟨j, hj, e⟩
    have : j = i := by omega
    omega
  · intro h; exact ⟨i, h, rfl⟩
theorem seq_whole {l : List Span} (h : Seq l) {k : Nat} (hk : k ≤ l.length) : wholeB l (upI k) = decide (k = l.length) := by
  rw [Bool.eq_iff_iff, decide_eq_true_iff]
  unfold wholeB
  rw [allN_iff]
  constructor
  · intro hw
    rcases Nat.lt_or_ge k l.length with h1 | h1
    · have := hw k h1
      unfold wholeP at this
      rw [(h k h1).2, upI_contains] at this
      simp at this; omega
    · omega
  · intro e i hi
    unfold wholeP
    rw [upI_contains]
    simp; omega
theorem seq_free {l : List Span} (h : Seq l) {k j : Nat} (hk : k ≤ l.length) (hj : j < l.length) : freeB l (upI k) j = decide (j = k) := by
  rw [Bool.eq_iff_iff, decide_eq_true_iff]
  unfold freeB
  simp only [Bool.and_eq_true, allN_iff, upI_contains]
  constructor
  · rintro ⟨h1, h2⟩
    have h2 : ¬ j < k := by simpa using h2
    rcases Nat.lt_or_ge k j with h3 | h3
    · have := h1 k (by omega)
      unfold freeP at this
      rw [upI_contains, seq_before h (by omega) hj] at this
      have e1 : ¬ (k : Int) = j := by omega
      simp [e1, h3] at this
    · omega
  · rintro rfl
    refine ⟨fun i hi => ?_, by simp⟩
    unfold freeP
    rw [upI_contains, seq_before h hi hj]
    by_cases h3 : i < j
    · simp [h3]
    · simp [h3]
theorem seq_find {n k : Nat} {p : Nat → Option (List Int)} (hk : k < n) (h : ∀ j, j < n → j ≠ k → p j = none) : (List.range n).findSome? p = p k := by
  cases hp : p k with
  | some r => exact find_some (fun i hi => h i (by omega) (by omega)) hk hp
  | none =>
    refine find_none fun j hj => ?_
    by_cases e : j = k
    · subst e; exact hp
    · exact h j hj e
/-- the search behind the first k -/
theorem seq_search {l : List Span} (h : Seq l) (f : Nat) (m : List Pair) {k : Nat} (hk : k < l.length) :
    searchS l (f + 1) m (upI k) = if (nextS m (at' l (k : Int))).2 then searchS l f (nextS m (at' l (k : Int))).1 (upI (k + 1)) else none := by
  show (if wholeB l (upI k) then some (upI k) else (List.range l.length).findSome? (stepS (searchS l f) l m (upI k))) = _
  rw [seq_whole h (by omega), if_neg (by simp; omega), seq_find hk]
  · unfold stepS
    rw [seq_free h (by omega) hk, upI_succ]
    simp
  · intro j hj hne
    unfold stepS
    rw [seq_free h (by omega) hj]
    simp [hne]
/-- the maps behind the first calls -/
def mapAt (m : List Pair) (cs : List Call) (k : Nat) : List Pair := (runS m (cs.take k)).1
theorem runS_append : ∀ (a b : List Call) (m : List Pair), runS m (a ++ b) = ((runS (runS m a).1 b).1, (runS m a).2 ++ (runS (runS m a).1 b).2)
  | [], b, m => by simp [runS]
  | c :: a, b, m => by simp [runS, runS_append a b]
theorem mapAt_succ {m : List Pair} {cs : List Call} {k : Nat} (hk : k < cs.length) : mapAt m cs (k + 1) = (doS (mapAt m cs k) (at' cs (k : Int))).1 := by
  unfold mapAt
  rw [List.take_succ_eq_append_getElem hk, runS_append, at_nat cs k hk]
  simp [runS]
theorem told_at {m : List Pair} {cs : List Call} {k : Nat} (hk : k < cs.length) : at' (runS m cs).2 (k : Int) = (doS (mapAt m cs k) (at' cs (k : Int))).2 := by
  have e : cs = cs.take k ++ (cs[k] :: cs.drop (k + 1)) := by rw [← List.drop_eq_getElem_cons hk, List.take_append_drop]
  have hl : (runS m (cs.take k)).2.length = k := by rw [runS_len, List.length_take]; omega
  have h1 : (runS m cs).2 = (runS m (cs.take k)).2 ++ (runS (runS m (cs.take k)).1 (cs[k] :: cs.drop (k + 1))).2 := by
    conv => lhs; rw [e, runS_append]
  unfold at'
  rw [h1, Int.toNat_natCast, List.getD_eq_getElem?_getD, List.getElem?_append_right (by omega), hl, Nat.sub_self]
  show (doS (mapAt m cs k) cs[k]).2 = _
  rw [← at_nat cs k hk]; rfl
theorem mapAt_right {m : List Pair} {cs : List Call} (hm : right m = true) (hc : cs.all may = true) (k : Nat) : right (mapAt m cs k) = true :=
  runS_right _ hm (List.all_eq_true.2 fun c h => List.all_eq_true.1 hc c (List.mem_of_mem_take h))
theorem acc_told {m : List Pair} {c : Call} (hm : right m = true) (hc : may c = true) : raccA m c (doS m c).2 = ((doS m c).1, true) := by
  unfold raccA
  rw [← do_eq hm hc]
  have : sameR (doS m c).2 (doS m c).2 = true := by simp [sameR]
  rw [this]; rfl
theorem may_at {cs : List Call} (hc : cs.all may = true) {k : Nat} (hk : k < cs.length) : may (at' cs (k : Int)) = true := by
  rw [at_nat cs k hk]; exact List.all_eq_true.1 hc _ (List.getElem_mem hk)
/-- with the replies of one map -/
theorem alone_next {m : List Pair} {cs : List Call} (hm : right m = true) (hc : cs.all may = true) {k : Nat} (hk : k < cs.length) : nextS (mapAt m cs k) (at' (rowSp cs (runS m cs).2) (k : Int)) = (mapAt m cs (k + 1), true) := by
  unfold nextS
  rw [row_at _ _ hk]
  dsimp only
  rw [if_pos (by omega), told_at hk, acc_told (mapAt_right hm hc k) (may_at hc hk), mapAt_succ hk]
theorem alone_search {m : List Pair} {cs : List Call} (hm : right m = true) (hc : cs.all may = true) : ∀ (d k f : Nat), k + d = cs.length → d < f → searchS (rowSp cs (runS m cs).2) f (mapAt m cs k) (upI k) = some (upI cs.length)
  | 0, k, f, hk, hf => by
    have hk : k = cs.length := by omega
    subst hk
    cases f with
    | zero => omega
    | succ f =>
      show (if wholeB _ (upI cs.length) then some (upI cs.length) else _) = _
      rw [seq_whole (row_seq _ _) (by rw [row_len]; exact Nat.le_refl _), row_len]
      simp
  | d + 1, k, f, hk, hf => by
    cases f with
    | zero => omega
    | succ f =>
      rw [seq_search (row_seq _ _) f _ (by rw [row_len]; omega), alone_next hm hc (by omega), if_pos rfl]
      exact alone_search hm hc d (k + 1) f (by omega) (by omega)
theorem alone_order {m : List Pair} {cs : List Call} (hm : right m = true) (hc : cs.all may = true) : orderR m (rowSp cs (runS m cs).2) = some (upI cs.length) := by
  have := alone_search hm hc cs.length 0 ((rowSp cs (runS m cs).2).length + 1) (by omega) (by rw [row_len]; omega)
  unfold orderR
  simpa [mapAt, upI, runS] using this
theorem alone_map {m : List Pair} {cs : List Call} (hm : right m = true) (hc : cs.all may = true) : ∀ (d k : Nat), k + d = cs.length → mapS (rowSp cs (runS m cs).2) (mapAt m cs k) (upI k) ((upI cs.length).drop k) = ((runS m cs).1, true)
  | 0, k, hk => by
    have hk : k = cs.length := by omega
    subst hk
    rw [List.drop_of_length_le (by rw [upI_len]; exact Nat.le_refl _)]
    show (mapAt m cs cs.length, wholeB _ (upI cs.length)) = _
    rw [seq_whole (row_seq _ _) (by rw [row_len]; exact Nat.le_refl _), row_len]
    simp [mapAt]
  | d + 1, k, hk => by
    have e : (upI cs.length).drop k = (k : Int) :: (upI cs.length).drop (k + 1) := by
      rw [List.drop_eq_getElem_cons (by rw [upI_len]; omega)]
      simp [upI]
    rw [e, mapS_of (by rw [row_len]; omega) (by rw [seq_free (row_seq _ _) (by rw [row_len]; omega) (by rw [row_len]; omega)]; simp) (by rw [alone_next hm hc (by omega)]), alone_next hm hc (by omega), ← upI_succ]
    exact alone_map hm hc d (k + 1) (by omega)
theorem alone_map0 {m : List Pair} {cs : List Call} (hm : right m = true) (hc : cs.all may = true) : mapS (rowSp cs (runS m cs).2) m [] (upI cs.length) = ((runS m cs).1, true) := by
  have := alone_map hm hc cs.length 0 (by omega)
  simpa [mapAt, upI, runS] using this
/-- with one reply that is not accepted -/
def odd (l : List Span) (k : Nat) (r : Reply) : List Span := l.set k { at' l (k : Int) with reply := r }
theorem odd_at {l : List Span} {k i : Nat} (hi : i < l.length) (r : Reply) : at' (odd l k r) (i : Int) = if i = k then { at' l (k : Int) with reply := r } else at' l (i : Int) := by
  unfold odd
  rw [at_nat _ i (by simpa using hi), List.getElem_set]
  split
  · rename_i h; subst h; simp
  · rename_i h; rw [if_neg (by omega), at_nat l i hi]
theorem odd_seq {l : List Span} (h : Seq l) {k : Nat} (r : Reply) : Seq (odd l k r) := fun i hi => by
  have hi2 : i < l.length := by simpa [odd] using hi
  rw [odd_at hi2]
  split
  · rename_i e; subst e; exact h i hi2
  · exact h i hi2
theorem odd_search {m : List Pair} {cs : List Call} (hm : right m = true) (hc : cs.all may = true) {q : Nat} (hq : q < cs.length) {r : Reply} (hr : (raccA (mapAt m cs q) (at' cs (q : Int)) r).2 = false) :
    ∀ (d k f : Nat), k + d = q → d < f → searchS (odd (rowSp cs (runS m cs).2) q r) f (mapAt m cs k) (upI k) = none
  | 0, k, f, hk, hf => by
    have hk : k = q := by omega
    subst hk
    cases f with
    | zero => omega
    | succ f =>
      have hl : (odd (rowSp cs (runS m cs).2) k r).length = cs.length := by simp [odd, row_len]
      rw [seq_search (odd_seq (row_seq _ _) r) f _ (by rw [hl]; exact hq)]
      have e : (nextS (mapAt m cs k) (at' (odd (rowSp cs (runS m cs).2) k r) (k : Int))).2 = false := by
        rw [odd_at (by rw [row_len]; exact hq), if_pos rfl, row_at _ _ hq]
        unfold nextS
        dsimp only
        rw [if_pos (by omega)]; exact hr
      rw [e]; rfl
  | d + 1, k, f, hk, hf => by
    cases f with
    | zero => omega
    | succ f =>
      have hl : (odd (rowSp cs (runS m cs).2) q r).length = cs.length := by simp [odd, row_len]
      have hkq : k < cs.length := by omega
      have h1 := seq_search (odd_seq (row_seq cs (runS m cs).2) (k := q) r) f (mapAt m cs k) (k := k) (by rw [hl]; exact hkq)
      have h2 : at' (odd (rowSp cs (runS m cs).2) q r) (k : Int) = at' (rowSp cs (runS m cs).2) (k : Int) := by rw [odd_at (by rw [row_len]; exact hkq), if_neg (by omega)]
      rw [h1, h2, alone_next hm hc hkq, if_pos rfl]
      exact odd_search hm hc hq hr d (k + 1) f (by omega) (by omega)
theorem odd_order {m : List Pair} {cs : List Call} (hm : right m = true) (hc : cs.all may = true) {q : Nat} (hq : q < cs.length) {r : Reply} (hr : (raccA (mapAt m cs q) (at' cs (q : Int)) r).2 = false) : orderR m (odd (rowSp cs (runS m cs).2) q r) = none := by
  have := odd_search hm hc hq hr q 0 ((odd (rowSp cs (runS m cs).2) q r).length + 1) (by omega) (by simp [odd, row_len]; omega)
  unfold orderR
  simpa [mapAt, upI, runS] using this
theorem row_good {cs : List Call} (hc : cs.all may = true) (rs : List Reply) : (rowSp cs rs).any badSp = false := by
  rw [List.any_eq_false]
  intro x hx
  obtain ⟨i, hi, rfl⟩ := List.getElem_of_mem hx
  have hi' : i < cs.length := by simpa [rowSp] using hi
  rw [← at_nat _ i hi, row_at _ _ hi']
  unfold badSp
  have := may_at hc hi'
  simp [this]; omega
theorem odd_good {l : List Span} (h : l.any badSp = false) (k : Nat) (hk : k < l.length) (r : Reply) : (odd l k r).any badSp = false := by
  rw [List.any_eq_false] at h ⊢
  intro x hx
  rcases List.mem_or_eq_of_mem_set hx with hx | rfl
  · exact h x hx
  · have := h _ (List.getElem_mem hk)
    rw [← at_nat l k hk] at this
    exact this
end Go.AL
