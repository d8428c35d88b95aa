/-
  Where the labels of a text stand: the walk. No conditions.
-/
import Derived.Test.YtaoiflliakjhdaaDoorU3
set_option linter.unusedVariables false
set_option linter.unusedSimpArgs false
set_option maxRecDepth 100000
namespace Go.AL
open Go Go.Proofs
attribute [local irreducible] J

abbrev Mp := List (Bs × Int)
def encM (m : Mp) : List (Value × Value) := m.map fun p => (S p.1, .int .i64 p.2)
theorem S_inj {a b : Bs} (h : S a = S b) : a = b := by
  unfold S at h
  injection h with h
  injection h with h
  injection h with h
theorem encM_find (m : Mp) (a : Bs) : MFind (vals (encM m)) (S a) ((m.lookup a).map iv) := by
  induction m with
  | nil => rfl
  | cons p m ih =>
    by_cases h : p.1 = a
    · exact .inl ⟨by show S p.1 = S a; rw [h], by obtain ⟨q, n⟩ := p; subst h; simp [List.lookup, iv]⟩
    · refine .inr ⟨fun e => h (S_inj e), ?_⟩
      have : List.lookup a (p :: m) = List.lookup a m := by
        obtain ⟨q, n⟩ := p
        simp only [List.lookup]
        have : (a == q) = false := by simp; exact fun e => h e.symm
        rw [this]
      rw [this]
      exact ih
theorem encM_put (m : Mp) (a : Bs) (n : Int) (h : m.lookup a = none) : MPut (vals (encM m)) (S a) (iv n) (vals (encM (m ++ [(a, n)]))) := by
  induction m with
  | nil => rfl
  | cons p m ih =>
    obtain ⟨q, n'⟩ := p
    simp only [List.lookup] at h
    split at h
    · cases h
    · rename_i hq
      refine .inr ⟨fun e => by rw [show q = a from S_inj e] at hq; simp at hq, _, rfl, ih h⟩
theorem encM_keys (m : Mp) : MKeys .string (vals (encM m)) := by
  intro p hp
  obtain ⟨q, hq, rfl⟩ := List.mem_map.1 hp
  obtain ⟨q', _, rfl⟩ := List.mem_map.1 hq
  trivial

/-- a line's text without its end; whether it has one; whether it is a label -/
def bare (c : Bs) : Bs := Lib.trimSuffix c [10]
def ended (c : Bs) : Bool := Lib.hasSuffix c [10]
def isLab (s : Bs) : Bool := Lib.hasSuffix s [58]
def labName (s : Bs) : Bs := Lib.trimSuffix s [58]
def stepL (st : Mp × Int) (c : Bs) : Mp × Int :=
  (cond (ended c && isLab (bare c) && !(st.1.lookup (labName (bare c))).isSome) (st.1 ++ [(labName (bare c), st.2)]) st.1, cond (isLab (bare c)) st.2 (st.2 + 1))
def labSt (cs : List Bs) (k : Nat) : Mp × Int := (cs.take k).foldl stepL ([], 0)
theorem labSt_succ {cs : List Bs} {k : Nat} (h : k < cs.length) : labSt cs (k + 1) = stepL (labSt cs k) cs[k] := by
  unfold labSt
  rw [List.take_succ_eq_append_getElem h, List.foldl_append]; rfl
theorem labSt_le (cs : List Bs) : ∀ k, 0 ≤ (labSt cs k).2 ∧ (labSt cs k).2 ≤ k
  | 0 => ⟨Int.le_refl _, Int.le_refl _⟩
  | k + 1 => by
    have ih := labSt_le cs k
    by_cases h : k < cs.length
    · rw [labSt_succ h]
      unfold stepL
      cases isLab (bare cs[k]) <;> simp <;> omega
    · have : labSt cs (k + 1) = labSt cs k := by unfold labSt; rw [List.take_of_length_le (by omega), List.take_of_length_le (by omega)]
      rw [this]; omega
theorem chunks_len : ∀ s : Bs, (chunks s).length ≤ s.length
  | [] => Nat.le_refl _
  | c :: r => by
    have ih := chunks_len r
    rw [chunks]
    split
    · simp; exact ih
    · split
      · simp
      · rename_i h t e; rw [e] at ih; simp at ih ⊢; omega
theorem chunk_len (s : Bs) {k : Nat} (h : k < (chunks s).length) : (chunks s)[k].length ≤ s.length := by
  rw [(rest_lt h).2]
  have := rest_len s k
  unfold lnHead
  split
  · rw [List.length_take]; omega
  · exact this
theorem bare_len (c : Bs) : (bare c).length ≤ c.length := by
  unfold bare Lib.trimSuffix
  split
  · rw [List.length_take]; omega
  · exact Nat.le_refl _

def labels (s : Bs) : Mp := (labSt (chunks s) (chunks s).length).1
theorem labels_ok (s : Bs) (hs : s.length ≤ 1000000) : ACalls Tryd.prog 20 [sv s] [] (one (.mp 0) [.vmap (encM (labels s))]) := by
  have hl := lines_ok s
  have hcl := chunks_len s
  refine jcalls Tryd.func20 rfl (by kernel_rfl) Tryd.ntmps20 rfl rfl (fun w0 β0 ext hβ => ?_)
  repeat (first | refine js rfl ?_ | (refine jdraw ?_ ?_; · kernel_rfl) | refine jbu rfl rfl rfl rfl ?_ | refine jo rfl rfl (map_newV) rfl rfl ?_)
  refine jb [] hl rfl rfl rfl ⟨rfl, rfl, rfl, rfl, rfl, rfl⟩ rfl rfl rfl rfl ?_
  repeat (first | refine js rfl ?_ | (refine jdraw ?_ ?_; · kernel_rfl) | refine jbu rfl rfl rfl rfl ?_)
  refine jrange [3, 4] rfl rfl rfl (fun l c c1 c2 c3 c4 c5 => ?_)
  have hc := lines1_ok l 3 s hs (fun k => [.vmap (encM (labSt (chunks s) k).1), .box 40 [.mp 0], .box 3 [iv (labSt (chunks s) k).2], .box 9 [sv (restAt s k)], .loop l .ready none c [.ptr 1 0, .ptr 2 0]])
    (fun _ => True) trivial (fun _ => False) (fun k _ => rfl) (fun k hk _ => ?_)
  · refine ⟨_, hc, fun r H' hres => ?_⟩
    obtain ⟨rfl, ⟨rfl, _⟩ | h⟩ := hres
    · refine ⟨_, .ready, none, _, .normal, rfl, rfl, by decide, rfl, ?_⟩
      repeat (first | refine js rfl ?_ | (refine jdraw ?_ ?_; · kernel_rfl) | refine jbu rfl rfl rfl rfl ?_)
      exact jret [0] true rfl rfl rfl ⟨rfl, rfl⟩
    · exact h.elim
  · refine jround (ts := [3, 4]) c1 c2 c3 c4 c5 (j := 4) rfl rfl rfl (fun w1 β1 ext1 hβ1 => ?_)
    have hle := labSt_le (chunks s) k
    have hcu := cutSuffix_ok ((chunks s)[k]) [10] (by have := chunk_len s hk; omega)
    have hcu2 := cutSuffix_ok (bare (chunks s)[k]) [58] (by have := chunk_len s hk; have := bare_len (chunks s)[k]; omega)
    have hst := labSt_succ hk
    unfold stepL at hst
    have hf := encM_find (labSt (chunks s) k).1 (labName (bare (chunks s)[k]))
    have hks := encM_keys (labSt (chunks s) k).1
    have hpu := encM_put (labSt (chunks s) k).1 (labName (bare (chunks s)[k])) (labSt (chunks s) k).2
    unfold ended isLab labName at hst
    unfold labName at hf hpu
    rw [show Lib.trimSuffix (chunks s)[k] [10] = bare (chunks s)[k] from rfl] at hcu
    rw [hst]
    generalize labSt (chunks s) k = st at *
    obtain ⟨m, n⟩ := st
    generalize restAt s (k + 1) = rr
    generalize Lib.hasSuffix (chunks s)[k] [10] = e at *
    generalize Lib.hasSuffix (bare (chunks s)[k]) [58] = il at *
    generalize Lib.trimSuffix (bare (chunks s)[k]) [58] = nm at *
    generalize bare (chunks s)[k] = b at *
    generalize (chunks s)[k] = ch at *
    simp only at hle hf hks hpu
    unfold sv bv at hcu hcu2
    have hadd : IntKind.i64.wrap (n + 1) = n + 1 := wrap_id (by omega) (by omega)
    cases hlk : m.lookup nm with
    | none =>
      rw [hlk] at hf
      have hpu := hpu hlk
      simp only [Option.map_none] at hf
      cases e <;> cases il
      all_goals (
        repeat (first | refine js rfl ?_ | (refine jdraw ?_ ?_; · kernel_rfl) | refine jbu rfl rfl rfl rfl ?_)
      )
      all_goals refine jlp ⟨rfl, ?_⟩
      all_goals (
        repeat (first | refine js rfl ?_ | (refine jdraw ?_ ?_; · kernel_rfl) | refine jbu rfl rfl rfl rfl ?_ | refine jv hcu rfl rfl rfl rfl rfl ?_ | refine jv hcu2 rfl rfl rfl rfl rfl ?_ | refine jo rfl rfl (map_get rfl rfl rfl rfl rfl rfl rfl rfl rfl trivial hks hf rfl) rfl rfl ?_ | refine jo rfl rfl (map_put (mo' := .vmap (encM (m ++ [(nm, n)]))) (.inl rfl) rfl rfl rfl rfl rfl rfl rfl rfl rfl trivial hks hpu rfl) rfl rfl ?_)
      )
      all_goals refine jrend none rfl rfl rfl rfl (.inl ⟨rfl, ?_, trivial⟩)
      all_goals simp only [hadd, hlk]
      all_goals rfl
    | some q =>
      rw [hlk] at hf
      simp only [Option.map_some] at hf
      cases e <;> cases il
      all_goals (
        repeat (first | refine js rfl ?_ | (refine jdraw ?_ ?_; · kernel_rfl) | refine jbu rfl rfl rfl rfl ?_)
      )
      all_goals refine jlp ⟨rfl, ?_⟩
      all_goals (
        repeat (first | refine js rfl ?_ | (refine jdraw ?_ ?_; · kernel_rfl) | refine jbu rfl rfl rfl rfl ?_ | refine jv hcu rfl rfl rfl rfl rfl ?_ | refine jv hcu2 rfl rfl rfl rfl rfl ?_ | refine jo rfl rfl (map_get rfl rfl rfl rfl rfl rfl rfl rfl rfl trivial hks hf rfl) rfl rfl ?_)
      )
      all_goals refine jrend none rfl rfl rfl rfl (.inl ⟨rfl, ?_, trivial⟩)
      all_goals simp only [hadd, hlk]
      all_goals rfl
end Go.AL
