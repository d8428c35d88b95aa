/-
  asm.Where, ref.Where, and the law AsmFinds: the walks. No conditions.
-/
import Derived.Test.YtaoiflliakjhdaaDoorV18
set_option linter.unusedVariables false
set_option linter.unusedSimpArgs false
set_option maxRecDepth 100000
namespace Go.AL
open Go Go.Proofs
attribute [local irreducible] J

def look2 (m : Mp) (w : Bs) : Int × Int := match m.lookup w with | some n => (n, 0) | none => (0, 8)
def whereP (s w : Bs) : Int × Int := cond (decide ((parseP s).2.2 = 0)) (look2 (labels s) w) (0, (parseP s).2.2)
theorem where_ok (g : Gl) (s w : Bs) (hs : s.length ≤ 1000000) : ACalls Tryd.prog 13 [sv s, sv w] (gls g) (one (.tup [iv (whereP s w).1, iv (whereP s w).2]) (gls g)) := by
  have hp := parse_ok g s hs
  have hl := labels_ok s hs
  have hf := encM_find (labels s) w
  have hks := encM_keys (labels s)
  unfold whereP look2
  generalize parseP s = r at *
  obtain ⟨r1, r2, r3⟩ := r
  simp only at hp ⊢
  by_cases h0 : r3 = 0
  · subst h0
    simp only [decide_true, cond_true]
    cases hlk : (labels s).lookup w with
    | none =>
      rw [hlk] at hf
      simp only [Option.map_none] at hf
      refine jcalls Tryd.func13 rfl (by kernel_rfl) Tryd.ntmps13 rfl rfl (fun w0 β0 ext hβ => ?_)
      repeat (first | refine js rfl ?_ | (refine jdraw ?_ ?_; · kernel_rfl) | refine jbu rfl rfl rfl rfl ?_)
      refine jb [0,1,2,3] hp rfl rfl rfl ⟨rfl, rfl, rfl, rfl, rfl, rfl⟩ rfl rfl rfl rfl ?_
      repeat (first | refine js rfl ?_ | (refine jdraw ?_ ?_; · kernel_rfl) | refine jbu rfl rfl rfl rfl ?_)
      refine jb [] hl rfl rfl rfl ⟨rfl, rfl, rfl, rfl, rfl, rfl⟩ rfl rfl rfl rfl ?_
      repeat (first | refine js rfl ?_ | (refine jdraw ?_ ?_; · kernel_rfl) | refine jbu rfl rfl rfl rfl ?_ | refine jo rfl rfl (map_get rfl rfl rfl rfl rfl rfl rfl rfl rfl trivial hks hf rfl) rfl rfl ?_)
      exact jr rfl rfl rfl rfl
    | some n =>
      rw [hlk] at hf
      simp only [Option.map_some] at hf
      refine jcalls Tryd.func13 rfl (by kernel_rfl) Tryd.ntmps13 rfl rfl (fun w0 β0 ext hβ => ?_)
      repeat (first | refine js rfl ?_ | (refine jdraw ?_ ?_; · kernel_rfl) | refine jbu rfl rfl rfl rfl ?_)
      refine jb [0,1,2,3] hp rfl rfl rfl ⟨rfl, rfl, rfl, rfl, rfl, rfl⟩ rfl rfl rfl rfl ?_
      repeat (first | refine js rfl ?_ | (refine jdraw ?_ ?_; · kernel_rfl) | refine jbu rfl rfl rfl rfl ?_)
      refine jb [] hl rfl rfl rfl ⟨rfl, rfl, rfl, rfl, rfl, rfl⟩ rfl rfl rfl rfl ?_
      repeat (first | refine js rfl ?_ | (refine jdraw ?_ ?_; · kernel_rfl) | refine jbu rfl rfl rfl rfl ?_ | refine jo rfl rfl (map_get rfl rfl rfl rfl rfl rfl rfl rfl rfl trivial hks hf rfl) rfl rfl ?_)
      exact jr rfl rfl rfl rfl
  · rw [decide_eq_false h0]
    have e1 : (r3 != 0) = true := by simpa using h0
    refine jcalls Tryd.func13 rfl (by kernel_rfl) Tryd.ntmps13 rfl rfl (fun w0 β0 ext hβ => ?_)
    repeat (first | refine js rfl ?_ | (refine jdraw ?_ ?_; · kernel_rfl) | refine jbu rfl rfl rfl rfl ?_)
    refine jb [0,1,2,3] hp rfl rfl rfl ⟨rfl, rfl, rfl, rfl, rfl, rfl⟩ rfl rfl rfl rfl ?_
    repeat (first | refine js rfl ?_ | (refine jdraw ?_ ?_; · kernel_rfl) | refine jbu rfl rfl rfl rfl ?_)
    rw [e1]
    repeat (first | refine js rfl ?_ | (refine jdraw ?_ ?_; · kernel_rfl) | refine jbu rfl rfl rfl rfl ?_)
    exact jr rfl rfl rfl rfl
def rwhere (s w : Bs) : Int × Int := cond (rtarget (rsplit 10 s) w).2 ((rtarget (rsplit 10 s) w).1, 0) (0, 8)
theorem rwhere_ok (s w : Bs) (hs : s.length ≤ 900000) (hw : w.length ≤ 1000000) : ACalls Tryd.prog 14 [sv s, sv w] [] (one (.tup [iv (rwhere s w).1, iv (rwhere s w).2]) []) := by
  have hsp := rsplit_ok s 10 hs
  have hlen := rsplit_len 10 s
  have hall : (rsplit 10 s).length ≤ 900001 := by
    have := (spSt_le 10 s s.length).2
    unfold rsplit
    simp
    omega
  have ht := rtarget_ok (rsplit 10 s) w hw (by omega) (fun l hm => by have := hlen l hm; omega)
  unfold rwhere
  generalize rtarget (rsplit 10 s) w = t at *
  obtain ⟨n, b⟩ := t
  simp only at ht ⊢
  cases b
  all_goals refine jcalls Tryd.func14 rfl (by kernel_rfl) Tryd.ntmps14 rfl rfl (fun w0 β0 ext hβ => ?_)
  all_goals (
    repeat (first | refine js rfl ?_ | (refine jdraw ?_ ?_; · kernel_rfl) | refine jbu rfl rfl rfl rfl ?_ | refine jv hsp rfl rfl rfl rfl rfl ?_ | refine jv ht rfl rfl rfl rfl rfl ?_)
  )
  all_goals exact jr rfl rfl rfl rfl
/-- the plain law of AsmFinds -/
theorem where_eq (s w : Bs) : whereP s w = cond (decide ((rparse s).2.2 = 0)) (rwhere s w) (0, (rparse s).2.2) := by
  unfold whereP
  rw [parse_eq]
  by_cases h0 : (rparse s).2.2 = 0
  · rw [decide_eq_true h0]
    simp only [cond_true]
    obtain ⟨x, hs, hc, hx⟩ := lines_split s
    have hx0 : x = [] := by
      unfold rparse at h0
      by_cases h4 : s.length > 40000
      · rw [decide_eq_true h4] at h0; exact absurd h0 (by simp)
      · rw [decide_eq_false h4] at h0
        simp only [cond_false] at h0
        have hlx : (rsplit 10 s).getLast? = some x := by rw [hs]; simp
        cases hb : bad1 (rpE (rlines s)) (rlines s).length with
        | some k =>
          rw [hb] at h0
          exact absurd h0 ((bad1_inv.2 k hb).2.2)
        | none =>
          rw [hb, hlx] at h0
          by_cases hx1 : x = []
          · exact hx1
          · rw [decide_eq_false (by simpa using hx1)] at h0
            exact absurd h0 (by simp)
    unfold look2 rwhere rtarget
    rw [labels_look, hs, hx0, List.findIdx?_append]
    have hno : ([([] : Bs)].findIdx? fun l => decide (l = w ++ [58])) = none := by
      simp [List.findIdx?_cons]
    rw [hno]
    cases hf : (rlines s).findIdx? (fun l => decide (l = w ++ [58])) with
    | none => simp
    | some i =>
      have hi : i < (rlines s).length := by
        have := List.findIdx?_eq_some_iff_getElem.1 hf
        obtain ⟨h, _⟩ := this
        exact h
      simp only [Option.map_some, Option.orElse_some, cond_true, Option.some_or]
      have : nl (rlines s ++ [[]]) i = nl (rlines s) i := by
        unfold nl
        rw [List.take_append_of_le_length (by omega)]
      simp [this]
  · rw [decide_eq_false h0]; rfl
theorem take20_ok (w : Bs) : w.take (min w.length 20) = w.take 20 := by
  rw [Nat.min_comm, ← List.take_eq_take_min]
theorem finds_ok (g : Gl) (s w : Bs) (hs : s.length ≤ 9223372036854775807) (hw : w.length ≤ 9223372036854775807) : ACalls Tryd.prog 5 [sv s, sv w] (gls g) (one (bv true) (gls g)) := by
  have h1 := part_ok s hs
  have hl : (s.take 3000).length ≤ 3000 := by rw [List.length_take]; omega
  have hlw : (w.take 20).length ≤ 20 := by rw [List.length_take]; omega
  have hm : (if (20 : Int) < ((ByteArray.size ⟨w.toArray⟩ : Nat) : Int) then (20 : Int) else ((ByteArray.size ⟨w.toArray⟩ : Nat) : Int)) = ((min 20 w.length : Nat) : Int) := by
    rw [show ByteArray.size ⟨w.toArray⟩ = w.length from rfl]; split <;> omega
  have ht : w.take (min 20 w.length) = w.take 20 := by rw [← List.take_eq_take_min]
  have h2 := where_ok g (s.take 3000) (w.take 20) (by omega)
  have h3 := rparse_ok (s.take 3000) (by omega)
  have h4 := alive_ok g
  have h5 := rwhere_ok (s.take 3000) (w.take 20) (by omega) (by omega)
  rw [where_eq] at h2
  generalize rparse (s.take 3000) = r at *
  generalize rwhere (s.take 3000) (w.take 20) = q at *
  obtain ⟨r1, r2, r3⟩ := r
  simp only at h2 h3
  by_cases h0 : r3 = 0
  · subst h0
    simp only [decide_true, cond_true] at h2
    refine jcalls Tryd.func5 rfl (by kernel_rfl) Tryd.ntmps5 rfl rfl (fun w0 β0 ext hβ => ?_)
    repeat (first | refine js rfl ?_ | (refine jdraw ?_ ?_; · kernel_rfl) | refine jbu rfl rfl rfl rfl ?_ | refine jv h1 rfl rfl rfl rfl rfl ?_)
    rw [hm]
    refine jo rfl rfl (cutH (min 20 w.length) rfl rfl rfl rfl rfl (by omega)) rfl rfl ?_
    rw [ht]
    repeat (first | refine js rfl ?_ | (refine jdraw ?_ ?_; · kernel_rfl) | refine jbu rfl rfl rfl rfl ?_)
    refine jb [0,1,2,3] h2 rfl rfl rfl ⟨rfl, rfl, rfl, rfl, rfl, rfl⟩ rfl rfl rfl rfl ?_
    repeat (first | refine js rfl ?_ | (refine jdraw ?_ ?_; · kernel_rfl) | refine jbu rfl rfl rfl rfl ?_)
    refine jb [] h3 rfl rfl rfl ⟨rfl, rfl, rfl, rfl, rfl, rfl⟩ rfl rfl rfl rfl ?_
    repeat (first | refine js rfl ?_ | (refine jdraw ?_ ?_; · kernel_rfl) | refine jbu rfl rfl rfl rfl ?_)
    refine jb [] h5 rfl rfl rfl ⟨rfl, rfl, rfl, rfl, rfl, rfl⟩ rfl rfl rfl rfl ?_
    repeat (first | refine js rfl ?_ | (refine jdraw ?_ ?_; · kernel_rfl) | refine jbu rfl rfl rfl rfl ?_)
    refine jb [0,1,2,3] h4 rfl rfl rfl ⟨rfl, rfl, rfl, rfl, rfl, rfl⟩ rfl rfl rfl rfl ?_
    repeat (first | refine js rfl ?_ | (refine jdraw ?_ ?_; · kernel_rfl) | refine jbu rfl rfl rfl rfl ?_)
    rw [beq_self_eq_true]
    repeat (first | refine js rfl ?_ | (refine jdraw ?_ ?_; · kernel_rfl) | refine jbu rfl rfl rfl rfl ?_)
    rw [beq_self_eq_true]
    repeat (first | refine js rfl ?_ | (refine jdraw ?_ ?_; · kernel_rfl) | refine jbu rfl rfl rfl rfl ?_)
    exact jr rfl rfl rfl rfl
  · rw [decide_eq_false h0] at h2
    simp only [cond_false] at h2
    have e1 : (r3 != 0) = true := by simpa using h0
    refine jcalls Tryd.func5 rfl (by kernel_rfl) Tryd.ntmps5 rfl rfl (fun w0 β0 ext hβ => ?_)
    repeat (first | refine js rfl ?_ | (refine jdraw ?_ ?_; · kernel_rfl) | refine jbu rfl rfl rfl rfl ?_ | refine jv h1 rfl rfl rfl rfl rfl ?_)
    rw [hm]
    refine jo rfl rfl (cutH (min 20 w.length) rfl rfl rfl rfl rfl (by omega)) rfl rfl ?_
    rw [ht]
    repeat (first | refine js rfl ?_ | (refine jdraw ?_ ?_; · kernel_rfl) | refine jbu rfl rfl rfl rfl ?_)
    refine jb [0,1,2,3] h2 rfl rfl rfl ⟨rfl, rfl, rfl, rfl, rfl, rfl⟩ rfl rfl rfl rfl ?_
    repeat (first | refine js rfl ?_ | (refine jdraw ?_ ?_; · kernel_rfl) | refine jbu rfl rfl rfl rfl ?_)
    refine jb [] h3 rfl rfl rfl ⟨rfl, rfl, rfl, rfl, rfl, rfl⟩ rfl rfl rfl rfl ?_
    repeat (first | refine js rfl ?_ | (refine jdraw ?_ ?_; · kernel_rfl) | refine jbu rfl rfl rfl rfl ?_)
    rw [e1]
    repeat (first | refine js rfl ?_ | (refine jdraw ?_ ?_; · kernel_rfl) | refine jbu rfl rfl rfl rfl ?_)
    refine jb [0,1,2,3] h4 rfl rfl rfl ⟨rfl, rfl, rfl, rfl, rfl, rfl⟩ rfl rfl rfl rfl ?_
    repeat (first | refine js rfl ?_ | (refine jdraw ?_ ?_; · kernel_rfl) | refine jbu rfl rfl rfl rfl ?_)
    rw [beq_self_eq_true]
    repeat (first | refine js rfl ?_ | (refine jdraw ?_ ?_; · kernel_rfl) | refine jbu rfl rfl rfl rfl ?_)
    exact jr rfl rfl rfl rfl
end Go.AL
