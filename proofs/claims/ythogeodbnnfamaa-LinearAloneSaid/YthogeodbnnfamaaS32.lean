/-
  The map behind a row, and the first order, as the reference has them. No conditions.
-/
import Derived.Test.YthogeodbnnfamaaS31
set_option linter.unusedVariables false
set_option linter.unusedSimpArgs false
set_option maxRecDepth 100000
namespace Go.AL
open Go Go.Proofs
attribute [local irreducible] J inB right may

def mapS (l : List Span) : List Pair → List Int → List Int → List Pair × Bool
  | m, pre, [] => (m, wholeB l pre)
  | m, pre, n :: rest => if 0 ≤ n ∧ n < l.length ∧ freeB l pre n.toNat = true then (if (nextS m (at' l n)).2 then mapS l (nextS m (at' l n)).1 (pre ++ [n]) rest else ([], false)) else ([], false)
theorem mapS_cons (l : List Span) (m : List Pair) (pre : List Int) (n : Int) (rest : List Int) : mapS l m pre (n :: rest) = if 0 ≤ n ∧ n < l.length ∧ freeB l pre n.toNat = true then (if (nextS m (at' l n)).2 then mapS l (nextS m (at' l n)).1 (pre ++ [n]) rest else ([], false)) else ([], false) := rfl
theorem may_of {l : List Span} (h : l.any badSp = false) {k : Nat} (hk : k < l.length) : may (at' l (k : Int)).call = true := by
  rw [List.any_eq_false] at h
  have := h _ (List.getElem_mem hk)
  rw [← at_nat l k hk] at this
  unfold badSp at this
  cases hm : may (at' l (k : Int)).call
  · rw [hm] at this; simp at this
  · rfl

theorem rmap_ok (m : List Pair) (l : List Span) (row : List Int) (hm : right m = true) (hb : l.any badSp = false) (hl : l.length ≤ 1000) (hr : row.length ≤ 1000) :
    ACalls Try.prog 34 [.sl (m.map encP), .sl (l.map encSp), .sl (row.map encI)] [] (one (.tup [.sl ((mapS l m [] row).1.map encP), .v (.bool (mapS l m [] row).2)]) []) := by
  refine jcalls Try.func34 rfl (by kernel_rfl) Try.ntmps34 rfl rfl (fun w0 β0 ext hβ => ?_)
  repeat (first | refine js rfl ?_ | (refine jdraw ?_ ?_; · kernel_rfl) | refine jbu rfl rfl rfl rfl ?_)
  refine jloop (ι := Nat × List Pair) 0 (fun z => z.1 ≤ row.length ∧ right z.2 = true ∧ mapS l m [] row = mapS l z.2 (row.take z.1) (row.drop z.1)) [0, 1, 2, 12, 13, 14] (fun z => [.sl (z.2.map encP), .sl (l.map encSp), .sl (row.map encI), .sl (row.map encI), .v (.int .i64 row.length), .v (.int .i64 z.1)]) (fun _ => []) (fun z => row.length - z.1) (0, m) (Nat.le_of_eq hβ) ⟨by simp, hm, rfl⟩ (by simp only [List.length_map]; rfl) rfl ?_
  rintro ⟨i, n⟩ ⟨hi, hn, hv⟩
  dsimp only at hi hn hv
  repeat (first | refine js rfl ?_ | (refine jdraw ?_ ?_; · kernel_rfl) | refine jbu rfl rfl rfl rfl ?_)
  refine jc rfl rfl rfl (fun h => ?_) (fun h => ?_)
  · have h := of_decide_eq_true h
    dsimp only at h
    have hi1 : i < row.length := by omega
    have w1 := idx_next hi1 (by omega)
    rw [List.drop_eq_getElem_cons hi1, mapS_cons, ← at_nat row i hi1] at hv
    have htk : row.take (i + 1) = row.take i ++ [at' row (i : Int)] := by rw [at_nat row i hi1]; exact List.take_succ_eq_append_getElem hi1
    repeat (first | refine js rfl ?_ | (refine jdraw ?_ ?_; · kernel_rfl) | refine jbu rfl rfl rfl rfl ?_)
    refine jo rfl rfl (index_at rfl rfl rfl rfl rfl rfl rfl rfl (by dsimp only; omega) (by dsimp only; omega)) rfl rfl ?_
    generalize at' row (i : Int) = q at hv htk
    repeat (first | refine js rfl ?_ | (refine jdraw ?_ ?_; · kernel_rfl) | refine jbu rfl rfl rfl rfl ?_)
    refine jg rfl rfl rfl rfl (fun h1 => ?_) (fun h1 => ?_)
    · have h1 := of_decide_eq_true h1
      rw [if_neg (by omega)] at hv
      repeat (first | refine js rfl ?_ | (refine jdraw ?_ ?_; · kernel_rfl) | refine jbu rfl rfl rfl rfl ?_)
      rw [hv]
      exact jr rfl rfl rfl rfl
    have h1 := of_decide_eq_false h1
    repeat (first | refine js rfl ?_ | (refine jdraw ?_ ?_; · kernel_rfl) | refine jbu rfl rfl rfl rfl ?_)
    refine jg rfl rfl rfl rfl (fun h2 => ?_) (fun h2 => ?_)
    · have h2 := of_decide_eq_true h2
      rw [List.length_map] at h2
      rw [if_neg (by omega)] at hv
      repeat (first | refine js rfl ?_ | (refine jdraw ?_ ?_; · kernel_rfl) | refine jbu rfl rfl rfl rfl ?_)
      rw [hv]
      exact jr rfl rfl rfl rfl
    have h2 := of_decide_eq_false h2
    rw [List.length_map] at h2
    obtain ⟨k, rfl⟩ : ∃ k : Nat, q = k := ⟨q.toNat, by omega⟩
    have hk : k < l.length := by omega
    have hfree := free_ok l (row.take i) k hk (by omega) (by rw [List.length_take]; omega)
    have hms := may_of hb hk
    have hnx := rnext_ok n (at' l (k : Int)) hn hms
    have hnr := next_right hn hms
    rw [Int.toNat_natCast] at hv
    repeat (first | refine js rfl ?_ | (refine jdraw ?_ ?_; · kernel_rfl) | refine jbu rfl rfl rfl rfl ?_)
    refine jo rfl rfl (cut_enc 0 i rfl rfl rfl ⟨.i64, rfl⟩ rfl rfl rfl (fun _ => ⟨rfl, rfl⟩) (by omega) (by omega)) rfl rfl ?_
    simp only [Nat.sub_zero, List.drop_zero]
    cases hf : freeB l (row.take i) k
    · rw [hf] at hfree hv
      rw [if_neg (by simp)] at hv
      repeat (first | refine js rfl ?_ | (refine jdraw ?_ ?_; · kernel_rfl) | refine jbu rfl rfl rfl rfl ?_ | refine jv hfree rfl rfl rfl rfl rfl ?_)
      rw [hv]
      exact jr rfl rfl rfl rfl
    rw [hf] at hfree hv
    rw [if_pos ⟨by omega, by omega, rfl⟩] at hv
    repeat (first | refine js rfl ?_ | (refine jdraw ?_ ?_; · kernel_rfl) | refine jbu rfl rfl rfl rfl ?_ | refine jv hfree rfl rfl rfl rfl rfl ?_)
    refine jo rfl rfl (index_at rfl rfl rfl rfl rfl rfl rfl rfl (by omega) (by omega)) rfl rfl ?_
    generalize nextS n (at' l (k : Int)) = z at hnx hnr hv
    obtain ⟨x, b⟩ := z
    cases b
    · rw [if_neg (by simp)] at hv
      repeat (first | refine js rfl ?_ | (refine jdraw ?_ ?_; · kernel_rfl) | refine jbu rfl rfl rfl rfl ?_ | refine jv hnx rfl rfl rfl rfl rfl ?_)
      rw [hv]
      exact jr rfl rfl rfl rfl
    · rw [if_pos rfl] at hv
      repeat (first | refine js rfl ?_ | (refine jdraw ?_ ?_; · kernel_rfl) | refine jbu rfl rfl rfl rfl ?_ | refine jv hnx rfl rfl rfl rfl rfl ?_)
      exact jnext (i + 1, x) ⟨hi1, hnr, by rw [hv, htk]⟩ (by dsimp only; omega) rfl rfl rfl (by rw [w1]) rfl
  · have h := of_decide_eq_false h
    dsimp only at h
    have hi2 : i = row.length := by omega
    subst hi2
    rw [List.drop_length, List.take_length] at hv
    have hw := whole_ok l row (by omega) (by omega)
    rw [hv]
    repeat (first | refine js rfl ?_ | (refine jdraw ?_ ?_; · kernel_rfl) | refine jbu rfl rfl rfl rfl ?_ | refine jv hw rfl rfl rfl rfl rfl ?_)
    exact jr rfl rfl rfl rfl

def stepS (rec : List Pair → List Int → Option (List Int)) (l : List Span) (m : List Pair) (pre : List Int) (j : Nat) : Option (List Int) :=
  if freeB l pre j then (if (nextS m (at' l (j : Int))).2 then rec (nextS m (at' l (j : Int))).1 (pre ++ [(j : Int)]) else none) else none
def searchS (l : List Span) : Nat → List Pair → List Int → Option (List Int)
  | 0, _, _ => none
  | f + 1, m, pre => if wholeB l pre then some pre else (List.range l.length).findSome? (stepS (searchS l f) l m pre)
def toldS (r : Option (List Int)) : AVal := .tup [.sl ((r.getD []).map encI), .v (.bool r.isSome)]
theorem find_none {n : Nat} {p : Nat → Option (List Int)} (h : ∀ j, j < n → p j = none) : (List.range n).findSome? p = none := by
  rw [List.findSome?_eq_none_iff]; intro x hx; exact h x (List.mem_range.1 hx)
theorem find_some {n j : Nat} {p : Nat → Option (List Int)} {r : List Int} (h : ∀ i, i < j → p i = none) (hj : j < n) (hp : p j = some r) : (List.range n).findSome? p = some r := by
  have e : List.range n = List.range j ++ j :: (List.range (n - (j + 1))).map (· + (j + 1)) := by
    have h1 : n = j + ((n - (j + 1)) + 1) := by omega
    rw [h1, List.range_add, List.range_succ_eq_map, List.map_cons, List.map_map]
    congr 1
    simp only [Nat.add_zero]
    congr 1
    rw [show j + ((n - (j + 1)) + 1) - (j + 1) = n - (j + 1) by omega]
    exact List.map_congr_left fun x _ => by simp only [Function.comp, Nat.succ_eq_add_one]; omega
  rw [e, List.findSome?_append, find_none h, List.findSome?_cons, hp]; rfl

theorem len_le {n : Nat} {pre : List Int} (hn : pre.Nodup) (hx : ∀ x ∈ pre, ∃ k : Nat, k < n ∧ x = k) : pre.length ≤ n := by
  have h1 := nodup_le n (pre.map Int.toNat) (by
    rw [List.Nodup, List.pairwise_map]
    refine hn.imp_of_mem fun {a b} ha hb hab he => hab ?_
    obtain ⟨i, _, rfl⟩ := hx a ha
    obtain ⟨j, _, rfl⟩ := hx b hb
    simp at he; simp [he]) (fun x h => by
    obtain ⟨y, hy, rfl⟩ := List.mem_map.1 h
    obtain ⟨k, hk, rfl⟩ := hx y hy
    simpa using hk)
  simpa using h1
theorem rfrom_ok (l : List Span) (hb : l.any badSp = false) (hl : l.length ≤ 1000) : ∀ (f : Nat) (m : List Pair) (pre : List Int), right m = true → f + pre.length = l.length + 1 → pre.Nodup → (∀ x ∈ pre, ∃ k : Nat, k < l.length ∧ x = k) →
    ACalls Try.prog 46 [.sl (m.map encP), .sl (l.map encSp), .sl (pre.map encI)] [] (one (toldS (searchS l f m pre)) []) := by
  intro f
  induction f with
  | zero =>
    intro m pre _ hf hn hx
    exfalso
    have h1 := len_le hn hx
    omega
  | succ f ih =>
    intro m pre hm hf hn hx
    have hw := whole_ok l pre (by omega) (by omega)
    have hS : searchS l (f + 1) m pre = if wholeB l pre then some pre else (List.range l.length).findSome? (stepS (searchS l f) l m pre) := rfl
    rw [hS]
    generalize searchS l f = rec at ih
    cases hwb : wholeB l pre <;> rw [hwb] at hw
    · rw [if_neg (by simp)]
      refine jcalls Try.func46 rfl (by kernel_rfl) Try.ntmps46 rfl rfl (fun w0 β0 ext hβ => ?_)
      repeat (first | refine js rfl ?_ | (refine jdraw ?_ ?_; · kernel_rfl) | refine jbu rfl rfl rfl rfl ?_ | refine jv hw rfl rfl rfl rfl rfl ?_)
      refine jloop (ι := Nat) 0 (fun i => i ≤ l.length ∧ ∀ j, j < i → stepS rec l m pre j = none) [0, 1, 2, 19, 20, 21] (fun i => [.sl (m.map encP), .sl (l.map encSp), .sl (pre.map encI), .sl (l.map encSp), .v (.int .i64 l.length), .v (.int .i64 i)]) (fun _ => []) (fun i => l.length - i) 0 (Nat.le_of_eq hβ) ⟨by omega, by simp⟩ (by simp only [List.length_map]; rfl) rfl ?_
      rintro i ⟨hi, hv⟩
      repeat (first | refine js rfl ?_ | (refine jdraw ?_ ?_; · kernel_rfl) | refine jbu rfl rfl rfl rfl ?_)
      refine jc rfl rfl rfl (fun h => ?_) (fun h => ?_)
      · have h := of_decide_eq_true h
        have hi1 : i < l.length := by omega
        have w1 := idx_next hi1 (by omega)
        have hfree := free_ok l pre i hi1 (by omega) (by omega)
        have hms := may_of hb hi1
        have hnx := rnext_ok m (at' l (i : Int)) hm hms
        have hnr := next_right hm hms
        have hst : stepS rec l m pre i = if freeB l pre i then (if (nextS m (at' l (i : Int))).2 then rec (nextS m (at' l (i : Int))).1 (pre ++ [(i : Int)]) else none) else none := rfl
        repeat (first | refine js rfl ?_ | (refine jdraw ?_ ?_; · kernel_rfl) | refine jbu rfl rfl rfl rfl ?_)
        refine jo rfl rfl (index_at rfl rfl rfl rfl rfl rfl rfl rfl (by omega) (by omega)) rfl rfl ?_
        cases hfb : freeB l pre i <;> rw [hfb] at hfree hst
        · repeat (first | refine js rfl ?_ | (refine jdraw ?_ ?_; · kernel_rfl) | refine jbu rfl rfl rfl rfl ?_ | refine jv hfree rfl rfl rfl rfl rfl ?_)
          exact jnext (i + 1) ⟨hi1, upto_succ hv (by rw [hst]; simp)⟩ (by omega) rfl rfl rfl (by rw [w1]) rfl
        rw [if_pos rfl] at hst
        have hni : (i : Int) ∉ pre := by
          unfold freeB at hfb
          simp only [Bool.and_eq_true, Bool.not_eq_true', List.contains_eq_mem, decide_eq_false_iff_not] at hfb
          exact hfb.2
        generalize nextS m (at' l (i : Int)) = z at hnx hnr hst
        obtain ⟨x, b⟩ := z
        cases b
        · repeat (first | refine js rfl ?_ | (refine jdraw ?_ ?_; · kernel_rfl) | refine jbu rfl rfl rfl rfl ?_ | refine jv hfree rfl rfl rfl rfl rfl ?_ | refine jv hnx rfl rfl rfl rfl rfl ?_)
          exact jnext (i + 1) ⟨hi1, upto_succ hv (by rw [hst]; simp)⟩ (by omega) rfl rfl rfl (by rw [w1]) rfl
        rw [if_pos rfl] at hst
        have hc := ih x (pre ++ [(i : Int)]) hnr (by simp; omega) (by
          rw [List.nodup_append]
          exact ⟨hn, by simp, fun a ha b hb' => by simp at hb'; subst hb'; intro e; subst e; exact hni ha⟩) (fun y hy => by
            rcases List.mem_append.1 hy with hy | hy
            · exact hx y hy
            · exact ⟨i, hi1, by simpa using hy⟩)
        repeat (first | refine js rfl ?_ | (refine jdraw ?_ ?_; · kernel_rfl) | refine jv hfree rfl rfl rfl rfl rfl ?_ | refine jv hnx rfl rfl rfl rfl rfl ?_)
        refine jbo rfl rfl rfl rfl rfl rfl rfl rfl ?_
        repeat (first | refine js rfl ?_ | (refine jdraw ?_ ?_; · kernel_rfl) | refine jbu rfl rfl rfl rfl ?_)
        refine jo rfl rfl (append_encs (enc := encI) (l := []) (l2 := pre) rfl rfl rfl rfl rfl rfl rfl rfl rfl (fun _ => ⟨rfl, rfl⟩) rfl (by simp; omega) rfl rfl) rfl rfl ?_
        repeat (first | refine js rfl ?_ | (refine jdraw ?_ ?_; · kernel_rfl) | refine jbu rfl rfl rfl rfl ?_)
        refine jo rfl rfl (append_enc (enc := encI) (i : Int) rfl rfl rfl rfl rfl rfl rfl rfl rfl rfl (fun _ => ⟨rfl, rfl⟩) rfl (by simp; omega) rfl rfl) rfl rfl ?_
        refine js rfl ?_; refine js rfl ?_; refine js rfl ?_
        trace_state
        refine jpub 12 rfl rfl rfl rfl ?_
        rw [List.nil_append]
        generalize hr : rec x (pre ++ [(i : Int)]) = rr at hc
        cases rr
        · repeat (first | refine js rfl ?_ | (refine jdraw ?_ ?_; · kernel_rfl) | refine jbu rfl rfl rfl rfl ?_ | refine jv hc rfl rfl rfl rfl rfl ?_)
          exact jnext (i + 1) ⟨hi1, upto_succ hv (by rw [hst, hr])⟩ (by omega) rfl rfl rfl (by rw [w1]) rfl
        · rw [find_some hv hi1 (by rw [hst, hr])]
          repeat (first | refine js rfl ?_ | (refine jdraw ?_ ?_; · kernel_rfl) | refine jbu rfl rfl rfl rfl ?_ | refine jv hc rfl rfl rfl rfl rfl ?_)
          exact jr rfl rfl rfl rfl
      · have h := of_decide_eq_false h
        have hi2 : i = l.length := by omega
        subst hi2
        rw [find_none hv]
        repeat (first | refine js rfl ?_ | (refine jdraw ?_ ?_; · kernel_rfl) | refine jbu rfl rfl rfl rfl ?_)
        exact jr rfl rfl rfl rfl
    · rw [if_pos rfl]
      refine jcalls Try.func46 rfl (by kernel_rfl) Try.ntmps46 rfl rfl (fun w0 β0 ext hβ => ?_)
      repeat (first | refine js rfl ?_ | (refine jdraw ?_ ?_; · kernel_rfl) | refine jbu rfl rfl rfl rfl ?_ | refine jv hw rfl rfl rfl rfl rfl ?_)
      exact jr rfl rfl rfl rfl
end Go.AL
