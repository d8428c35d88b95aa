/-
  The search for the first order. No conditions.
-/
import Derived.Test.YthogeodbnnfamaaS35
set_option linter.unusedVariables false
set_option linter.unusedSimpArgs false
set_option maxRecDepth 100000
namespace Go.AL
open Go Go.Proofs
attribute [local irreducible] J inB right may

/-- the search, and how often the row was made anew -/
def goG (rec : List Pair → List Int → Nat → Option (List Int) × Nat) (l : List Span) (m : List Pair) (pre : List Int) : List Nat → Nat → Option (List Int) × Nat
  | [], g => (none, g)
  | n :: ns, g => if (nextB l m pre n).2 then (match (rec (nextB l m pre n).1 (pre ++ [(n : Int)]) (g + 1)).1 with
      | some r => (some r, (rec (nextB l m pre n).1 (pre ++ [(n : Int)]) (g + 1)).2)
      | none => goG rec l m pre ns ((rec (nextB l m pre n).1 (pre ++ [(n : Int)]) (g + 1)).2 + 1)) else goG rec l m pre ns g
def srchG (l : List Span) : Nat → List Pair → List Int → Nat → Option (List Int) × Nat
  | 0, _, _, g => (none, g)
  | f + 1, m, pre, g => if wholeB l pre then (some pre, g) else goG (srchG l f) l m pre (List.range l.length) g
theorem goG_eq {rec : List Pair → List Int → Nat → Option (List Int) × Nat} {rec' : List Pair → List Int → Option (List Int)} (h : ∀ m pre g, (rec m pre g).1 = rec' m pre) (l : List Span) (m : List Pair) (pre : List Int) :
    ∀ (ns : List Nat) (g : Nat), (goG rec l m pre ns g).1 = ns.findSome? (stepS rec' l m pre)
  | [], g => rfl
  | n :: ns, g => by
    have ih := fun g => goG_eq h l m pre ns g
    have hs : stepS rec' l m pre n = if (nextB l m pre n).2 then rec' (nextB l m pre n).1 (pre ++ [(n : Int)]) else none := by
      unfold stepS nextB
      cases freeB l pre n <;> simp
    rw [List.findSome?_cons, hs]
    unfold goG
    cases (nextB l m pre n).2
    · simpa using ih g
    · simp only [if_true]
      rw [← h (nextB l m pre n).1 (pre ++ [(n : Int)]) (g + 1)]
      cases hr : (rec (nextB l m pre n).1 (pre ++ [(n : Int)]) (g + 1)).1
      · simpa using ih _
      · rfl
theorem srchG_eq (l : List Span) : ∀ (f : Nat) (m : List Pair) (pre : List Int) (g : Nat), (srchG l f m pre g).1 = searchS l f m pre
  | 0, _, _, _ => rfl
  | f + 1, m, pre, g => by
    unfold srchG searchS
    cases wholeB l pre
    · exact goG_eq (srchG_eq l f) l m pre _ g
    · rfl
theorem range_drop {n i : Nat} (h : i < n) : (List.range n).drop i = i :: (List.range n).drop (i + 1) := by
  rw [List.drop_eq_getElem_cons (by simpa using h)]; simp

def fromH (l : List Span) (g : Nat) (row : List Int) : List AObj :=
  [.box 83 [.ptr 3 0], .box 54 [.arr 4 g], .box 86 [.fn (.func 44) [] [.ptr 0 0, .ptr 1 0, .ptr 2 0]], .box 91 (lookF l), .arr g 3 1 (row.map encI)]
set_option maxHeartbeats 1000000 in
theorem from_ok (l : List Span) (hb : l.any badSp = false) (hl : l.length ≤ 8) : ∀ (f : Nat) (m : List Pair) (pre : List Int) (d : BitVec 64) (g : Nat), right m = true → f + pre.length = l.length + 1 → pre.Nodup → (∀ x ∈ pre, ∃ k : Nat, k < l.length ∧ x = k) → Bits d pre →
    ACalls Try.prog 44 [.sl (m.map encP), u64A d, .ptr 0 0, .ptr 1 0, .ptr 2 0] (fromH l g pre)
      (one (.v (.bool (srchG l f m pre g).1.isSome)) (fromH l (srchG l f m pre g).2 ((srchG l f m pre g).1.getD pre))) := by
  intro f
  induction f with
  | zero =>
    intro m pre d g _ hf hn hx
    exfalso
    have h1 := len_le hn hx
    omega
  | succ f ih =>
    intro m pre d g hm hf hn hx hd
    have hw := whole_bits hl hd
    have hS : srchG l (f + 1) m pre g = if wholeB l pre then (some pre, g) else goG (srchG l f) l m pre (List.range l.length) g := rfl
    rw [hS]
    generalize srchG l f = rec at ih
    unfold fromH at ih ⊢
    by_cases hwb : mustM l l.length &&& ~~~d = 0
    · rw [decide_eq_true hwb] at hw
      rw [hw, if_pos rfl]
      refine jcalls Try.func44 rfl (by kernel_rfl) Try.ntmps44 rfl rfl (fun w0 β0 ext hβ => ?_)
      repeat (first | refine jo rfl rfl (u64_andNot_op rfl rfl) rfl rfl ?_ | refine js rfl ?_ | (refine jdraw ?_ ?_; · kernel_rfl) | refine jbu rfl rfl rfl rfl ?_)
      refine jc rfl rfl rfl (fun h => ?_) (fun h => absurd (u64_eq.2 hwb) (by rw [h]; decide))
      repeat (first | refine js rfl ?_ | (refine jdraw ?_ ?_; · kernel_rfl) | refine jbu rfl rfl rfl rfl ?_)
      exact jr rfl rfl rfl rfl
    rw [decide_eq_false hwb] at hw
    rw [hw, if_neg (by simp)]
    refine jcalls Try.func44 rfl (by kernel_rfl) Try.ntmps44 rfl rfl (fun w0 β0 ext hβ => ?_)
    repeat (first | refine jo rfl rfl (u64_andNot_op rfl rfl) rfl rfl ?_ | refine js rfl ?_ | (refine jdraw ?_ ?_; · kernel_rfl) | refine jbu rfl rfl rfl rfl ?_)
    refine jc rfl rfl rfl (fun h => absurd (u64_eq.1 h) hwb) (fun h => ?_)
    repeat (first | refine js rfl ?_ | (refine jdraw ?_ ?_; · kernel_rfl) | refine jbu rfl rfl rfl rfl ?_)
    refine jloop (ι := Nat × Nat) 5 (fun z => z.1 ≤ l.length ∧ goG rec l m pre (List.range l.length) g = goG rec l m pre ((List.range l.length).drop z.1) z.2) [0, 1, 2, 3, 4, 21, 22]
      (fun z => [.sl (m.map encP), u64A d, .ptr 0 0, .ptr 1 0, .ptr 2 0, .v (.int .i64 l.length), .v (.int .i64 z.1)]) (fun z => fromH l z.2 pre) (fun z => l.length - z.1) (0, g) (Nat.le_of_eq hβ) ⟨by simp, rfl⟩ rfl rfl ?_
    rintro ⟨i, q⟩ ⟨hi, hv⟩
    dsimp only at hi hv
    unfold fromH
    repeat (first | refine js rfl ?_ | (refine jdraw ?_ ?_; · kernel_rfl) | refine jbu rfl rfl rfl rfl ?_)
    refine jc rfl rfl rfl (fun h => ?_) (fun h => ?_)
    · have h := of_decide_eq_true h
      dsimp only at h
      have hi1 : i < l.length := by omega
      have w1 := idx_next hi1 (by omega)
      rw [range_drop hi1] at hv
      have hstep : goG rec l m pre (i :: (List.range l.length).drop (i + 1)) q = if (nextB l m pre i).2 then (match (rec (nextB l m pre i).1 (pre ++ [(i : Int)]) (q + 1)).1 with
        | some r => (some r, (rec (nextB l m pre i).1 (pre ++ [(i : Int)]) (q + 1)).2)
        | none => goG rec l m pre ((List.range l.length).drop (i + 1)) ((rec (nextB l m pre i).1 (pre ++ [(i : Int)]) (q + 1)).2 + 1)) else goG rec l m pre ((List.range l.length).drop (i + 1)) q := rfl
      rw [hstep] at hv
      have hnx := next_ok m l hm hb hl d pre hd i hi1
      have hnr := nextB_right hm hb pre hi1
      have hni : (nextB l m pre i).2 = true → (i : Int) ∉ pre := fun hz => by
        unfold nextB at hz
        cases hfb : freeB l pre i <;> rw [hfb] at hz
        · simp at hz
        · unfold freeB at hfb
          simp only [Bool.and_eq_true, Bool.not_eq_true', List.contains_eq_mem, decide_eq_false_iff_not] at hfb
          exact hfb.2
      generalize nextB l m pre i = z at hnx hnr hv hni
      obtain ⟨x, b⟩ := z
      repeat (first | refine js rfl ?_ | (refine jdraw ?_ ?_; · kernel_rfl) | refine jbu rfl rfl rfl rfl ?_)
      refine jb [3] hnx rfl rfl rfl ⟨rfl, rfl, rfl, rfl, rfl, rfl⟩ rfl rfl rfl rfl ?_
      cases b
      · rw [if_neg (by simp)] at hv
        repeat (first | refine js rfl ?_ | (refine jdraw ?_ ?_; · kernel_rfl) | refine jbu rfl rfl rfl rfl ?_)
        exact jnext (i + 1, q) ⟨hi1, hv⟩ (by dsimp only; omega) rfl rfl rfl (by rw [w1]; rfl) rfl
      rw [if_pos rfl] at hv
      have hc := ih x (pre ++ [(i : Int)]) (d ||| 1#64 <<< i) (q + 1) hnr (by simp; omega) (by
        rw [List.nodup_append]
        exact ⟨hn, by simp, fun a ha b hb' => by simp at hb'; subst hb'; intro e; subst e; exact hni rfl ha⟩) (fun y hy => by
          rcases List.mem_append.1 hy with hy | hy
          · exact hx y hy
          · exact ⟨i, hi1, by simpa using hy⟩) (hd.push i)
      dsimp only at hv
      generalize rec x (pre ++ [(i : Int)]) (q + 1) = y at hc hv
      obtain ⟨r, g2⟩ := y
      repeat (first | refine js rfl ?_ | refine jbu rfl rfl rfl rfl ?_)
      refine jo rfl rfl (append_enc (enc := encI) (l := pre) (i : Int) rfl rfl rfl rfl rfl rfl rfl rfl rfl rfl (fun _ => ⟨rfl, rfl⟩) rfl (by omega) rfl rfl) rfl rfl ?_
      repeat (first | refine js rfl ?_ | refine jbu rfl rfl rfl rfl ?_)
      refine jdrawP [(0, .r), (1, .p), (2, .p), (3, .p), (4, .p), (5, .p), (6, .m)] rfl (by kernel_rfl) ?_
      repeat (first | refine jo rfl rfl (u64_bit_op rfl rfl (by omega)) rfl rfl ?_ | refine jo rfl rfl (u64_or_op rfl rfl) rfl rfl ?_ | refine js rfl ?_ | (refine jdraw ?_ ?_; · kernel_rfl) | refine jbu rfl rfl rfl rfl ?_)
      refine jb [0, 1, 2, 3, 4] hc rfl rfl rfl ⟨rfl, rfl, rfl, rfl, rfl, rfl⟩ rfl rfl rfl rfl ?_
      cases r
      · repeat (first | refine js rfl ?_ | (refine jdraw ?_ ?_; · kernel_rfl) | refine jbu rfl rfl rfl rfl ?_)
        refine jo rfl rfl (len_arr rfl rfl rfl rfl) rfl rfl ?_
        refine jre 48 (.v (.int .i64 (pre.length + 1 : Nat))) rfl rfl (by simp) ?_
        repeat (first | refine js rfl ?_ | (refine jdraw ?_ ?_; · kernel_rfl) | refine jbu rfl rfl rfl rfl ?_)
        have w3 : IntKind.i64.wrap (((pre.length + 1 : Nat) : Int) - 1) = (pre.length : Nat) := by rw [wrap_id] <;> omega
        refine jre 49 (.v (.int .i64 (pre.length : Nat))) rfl rfl (by rw [w3]) ?_
        refine jo rfl rfl (cut_own pre.length rfl rfl rfl rfl rfl rfl (by simp) rfl) rfl rfl ?_
        repeat (first | refine js rfl ?_ | (refine jdraw ?_ ?_; · kernel_rfl) | refine jbu rfl rfl rfl rfl ?_)
        exact jnext (i + 1, g2 + 1) ⟨hi1, hv⟩ (by dsimp only; omega) rfl rfl rfl (by rw [w1]; rfl) (congrArg (fun ys => [AObj.box 83 [.ptr 3 0], .box 54 [.arr 4 (g2 + 1)], .box 86 [.fn (.func 44) [] [.ptr 0 0, .ptr 1 0, .ptr 2 0]], .box 91 (lookF l), .arr (g2 + 1) 3 1 ys])
          (show ((pre ++ [(i : Int)]).map encI).take pre.length = pre.map encI by rw [← List.map_take]; simp))
      · rw [hv]
        repeat (first | refine js rfl ?_ | (refine jdraw ?_ ?_; · kernel_rfl) | refine jbu rfl rfl rfl rfl ?_)
        exact jr rfl rfl rfl rfl
    · have h := of_decide_eq_false h
      dsimp only at h
      have hi2 : i = l.length := by omega
      subst hi2
      rw [List.drop_of_length_le (by simp)] at hv
      rw [hv]
      repeat (first | refine js rfl ?_ | (refine jdraw ?_ ?_; · kernel_rfl) | refine jbu rfl rfl rfl rfl ?_)
      exact jr rfl rfl rfl rfl
end Go.AL
