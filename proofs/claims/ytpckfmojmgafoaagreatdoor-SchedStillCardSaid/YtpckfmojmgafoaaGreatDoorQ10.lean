/-
  Part 10 of the proof texts: the program logic over the model, then the contracts of the functions that the laws reach. No conditions.
-/
import Derived.Test.YtpckfmojmgafoaaGreatDoorQ9
set_option linter.unusedVariables false
set_option linter.unusedSimpArgs false
section
set_option maxRecDepth 100000
namespace Go.AL
open Go Go.Proofs
attribute [local irreducible] J
theorem right_yes (w : Wd) (h : WdR w) : ACalls Tryz.prog 41 [encWd w] [] (one (bv true) []) := by
  have := wd_right w h.size
  rwa [wRight_iff.2 h] at this
theorem right_no (w : Wd) (h : WdSz w) (hr : wRight w = false) : ACalls Tryz.prog 41 [encWd w] [] (one (bv false) []) := by
  have := wd_right w h
  rwa [hr] at this
theorem run_no (w : Wd) (l : List Act) (h : WdSz w) (hr : wRight w = false) : ACalls Tryz.prog 16 [encWd w, .sl (l.map encAct)] [] (one (.tup [encWd wd0, iv 0, iv 1]) []) := by
  have h1 := right_no w h hr
  unfold encWd wCells ivs at *
  refine jcalls Tryz.func16 rfl (by kernel_rfl) Tryz.ntmps16 rfl rfl (fun w0 β0 ext hβ => ?_)
  repeat (first | refine js rfl ?_ | (refine jdraw ?_ ?_; · kernel_rfl) | refine jbu rfl rfl rfl rfl ?_ | refine jv h1 rfl rfl rfl rfl rfl ?_)
  exact jr rfl rfl rfl rfl
theorem do_no (w : Wd) (a : Act) (h : WdSz w) (hr : wRight w = false) : ACalls Tryz.prog 17 [encWd w, encAct a] [] (one (.tup [encWd wd0, bv false, iv 1]) []) := by
  have h1 := right_no w h hr
  unfold encWd wCells ivs encAct at *
  refine jcalls Tryz.func17 rfl (by kernel_rfl) Tryz.ntmps17 rfl rfl (fun w0 β0 ext hβ => ?_)
  repeat (first | refine js rfl ?_ | (refine jdraw ?_ ?_; · kernel_rfl) | refine jbu rfl rfl rfl rfl ?_ | refine jv h1 rfl rfl rfl rfl rfl ?_)
  exact jr rfl rfl rfl rfl
theorem idle_no (w : Wd) (h : WdSz w) (hr : wRight w = false) : ACalls Tryz.prog 19 [encWd w] [] (one (.tup [bv false, iv 1]) []) := by
  have h1 := right_no w h hr
  unfold encWd wCells ivs at *
  refine jcalls Tryz.func19 rfl (by kernel_rfl) Tryz.ntmps19 rfl rfl (fun w0 β0 ext hβ => ?_)
  repeat (first | refine js rfl ?_ | (refine jdraw ?_ ?_; · kernel_rfl) | refine jbu rfl rfl rfl rfl ?_ | refine jv h1 rfl rfl rfl rfl rfl ?_)
  exact jr rfl rfl rfl rfl
theorem rounds_no (w : Wd) (m : Int) (h : WdSz w) (hr : wRight w = false) : ACalls Tryz.prog 23 [encWd w, iv m] [] (one (.tup [encWd wd0, iv 0, iv 1]) []) := by
  have h1 := right_no w h hr
  unfold encWd wCells ivs at *
  refine jcalls Tryz.func23 rfl (by kernel_rfl) Tryz.ntmps23 rfl rfl (fun w0 β0 ext hβ => ?_)
  repeat (first | refine js rfl ?_ | (refine jdraw ?_ ?_; · kernel_rfl) | refine jbu rfl rfl rfl rfl ?_ | refine jv h1 rfl rfl rfl rfl rfl ?_)
  exact jr rfl rfl rfl rfl
theorem rounds_out (w : Wd) (m : Int) (h : WdR w) (hm : m < 0 ∨ 10000 < m) : ACalls Tryz.prog 23 [encWd w, iv m] [] (one (.tup [encWd wd0, iv 0, iv 1]) []) := by
  have h1 := right_yes w h
  unfold encWd wCells ivs at *
  by_cases h0 : m < 0
  · have e : decide (m < 0) = true := decide_eq_true h0
    refine jcalls Tryz.func23 rfl (by kernel_rfl) Tryz.ntmps23 rfl rfl (fun w0 β0 ext hβ => ?_)
    repeat (first | refine js rfl ?_ | (refine jdraw ?_ ?_; · kernel_rfl) | refine jbu rfl rfl rfl rfl ?_ | refine jv h1 rfl rfl rfl rfl rfl ?_)
    rw [e]
    repeat (first | refine js rfl ?_ | (refine jdraw ?_ ?_; · kernel_rfl) | refine jbu rfl rfl rfl rfl ?_)
    exact jr rfl rfl rfl rfl
  · have e : decide (m < 0) = false := decide_eq_false h0
    have e2 : decide (m > 10000) = true := decide_eq_true (by omega)
    refine jcalls Tryz.func23 rfl (by kernel_rfl) Tryz.ntmps23 rfl rfl (fun w0 β0 ext hβ => ?_)
    repeat (first | refine js rfl ?_ | (refine jdraw ?_ ?_; · kernel_rfl) | refine jbu rfl rfl rfl rfl ?_ | refine jv h1 rfl rfl rfl rfl rfl ?_)
    rw [e]
    repeat (first | refine js rfl ?_ | (refine jdraw ?_ ?_; · kernel_rfl) | refine jbu rfl rfl rfl rfl ?_)
    rw [e2]
    repeat (first | refine js rfl ?_ | (refine jdraw ?_ ?_; · kernel_rfl) | refine jbu rfl rfl rfl rfl ?_)
    exact jr rfl rfl rfl rfl
theorem runW_right {w : Wd} (h : WdR w) : ∀ (l : List Act) (n : Nat), WdR (l.foldl (fun s a => ((actW s.1 a).1, cond (actW s.1 a).2 (s.2 + 1) s.2)) (w, n)).1 ∧ (l.foldl (fun s a => ((actW s.1 a).1, cond (actW s.1 a).2 (s.2 + 1) s.2)) (w, n)).1.evs.length ≤ w.evs.length + l.length ∧
    (l.foldl (fun s a => ((actW s.1 a).1, cond (actW s.1 a).2 (s.2 + 1) s.2)) (w, n)).2 ≤ n + l.length := by
  intro l
  induction l generalizing w with
  | nil => intro n; exact ⟨h, Nat.le_refl _, Nat.le_refl _⟩
  | cons a l ih =>
    intro n
    obtain ⟨a1, a2, _⟩ := actW_right a h
    obtain ⟨b1, b2, b3⟩ := ih a1 (cond (actW w a).2 (n + 1) n)
    refine ⟨b1, ?_, ?_⟩
    · simp only [List.foldl_cons, List.length_cons]; omega
    · simp only [List.foldl_cons, List.length_cons]
      have : cond (actW w a).2 (n + 1) n ≤ n + 1 := by cases (actW w a).2 <;> simp
      omega
theorem run_succ (w : Wd) (l : List Act) (q : Nat) (hq : q < l.length) : runW w (l.take (q + 1)) = ((actW (runW w (l.take q)).1 (at' l (q : Int))).1, cntB (runW w (l.take q)).2 (actW (runW w (l.take q)).1 (at' l (q : Int))).2) := by
  unfold runW
  rw [at_nat l q hq, List.take_add_one, List.getElem?_eq_getElem hq, List.foldl_append]
  rfl
def w0C : List AVal := [.sl [], .sl [], .sl [], iv 0, .sl [], .sl [], .sl []]
theorem run_ok (w : Wd) (l : List Act) (h : WdR w) (he : w.evs.length ≤ 900000) (hl : l.length ≤ 100000) : ACalls Tryz.prog 16 [encWd w, .sl (l.map encAct)] [] (one (.tup [encWd (runW w l).1, iv ((runW w l).2 : Int), iv 0]) []) := by
  have h1 := right_yes w h
  unfold encWd wCells ivs at *
  refine jcalls Tryz.func16 rfl (by kernel_rfl) Tryz.ntmps16 rfl rfl (fun w0 β0 ext hβ => ?_)
  repeat (first | refine js rfl ?_ | (refine jdraw ?_ ?_; · kernel_rfl) | refine jbu rfl rfl rfl rfl ?_ | refine jv h1 rfl rfl rfl rfl rfl ?_)
  refine jfin 3 [2, 4, 5, 6, 7, 17, 18, 19] true rfl rfl rfl (by show β0.length ≤ 3; rw [hβ]; exact Nat.zero_le _) ?_
  refine jloop 3 (fun q : Nat => q ≤ l.length) [2, 4, 5, 6, 7, 17, 18, 19] (fun q => [.ptr 0 0, .ptr 1 0, iv 0, iv 0, .ptr 2 0, .sl (l.map encAct), .v (.int .i64 ((l.map encAct).length : Int)), .v (.int .i64 (q : Int))])
    (fun q => [.box 33 (wCells w), .box 33 w0C, .box 97 (xC (runW w (l.take q)).1 (runW w (l.take q)).2)]) (fun q => l.length - q) 0 (by show β0.length ≤ 3; rw [hβ]; exact Nat.zero_le _) (Nat.zero_le _) rfl rfl (fun q hq => ?_)
  obtain ⟨b1, b2, b3⟩ := runW_right h (l.take q) 0
  rw [show (l.take q).foldl (fun s a => ((actW s.1 a).1, cond (actW s.1 a).2 (s.2 + 1) s.2)) (w, 0) = runW w (l.take q) from rfl] at b1 b2 b3
  rw [List.length_take] at b2 b3
  unfold wCells ivs xC w0C
  repeat (first | refine js rfl ?_ | (refine jdraw ?_ ?_; · kernel_rfl) | refine jbu rfl rfl rfl rfl ?_)
  refine jc rfl rfl rfl (fun h => ?_) (fun h => ?_)
  · have h := of_decide_eq_true h
    rw [List.length_map] at h
    have hq2 : q < l.length := by omega
    have hs := run_succ w l q hq2
    have hidx : IntKind.i64.wrap ((q : Int) + 1) = ((q + 1 : Nat) : Int) := idx_next hq2 (by omega)
    have ha := act_ok (runW w (l.take q)).1 (runW w (l.take q)).2 (at' l (q : Int)) b1 (by omega) (by omega)
    generalize runW w (l.take q) = r at *
    unfold encAct at ha
    unfold xH xC at ha
    repeat (first | refine js rfl ?_ | (refine jdraw ?_ ?_; · kernel_rfl) | refine jbu rfl rfl rfl rfl ?_ | refine jo rfl rfl (index_at rfl rfl rfl rfl rfl rfl rfl rfl (Int.natCast_nonneg q) h) rfl rfl ?_)
    refine jb [2] ha rfl rfl rfl ⟨rfl, rfl, rfl, rfl, rfl, rfl⟩ rfl rfl rfl rfl ?_
    repeat (first | refine js rfl ?_ | (refine jdraw ?_ ?_; · kernel_rfl) | refine jbu rfl rfl rfl rfl ?_)
    refine jnext (q + 1) hq2 (by omega) rfl rfl rfl ?_ ?_
    · rw [hidx]; rfl
    · rw [hs]; rfl
  · have h := of_decide_eq_false h
    rw [List.length_map] at h
    have : q = l.length := by omega
    subst this
    rw [List.take_length]
    generalize runW w l = r at *
    repeat (first | refine js rfl ?_ | refine jbu rfl rfl rfl rfl ?_)
    refine jmid [4, 5, 6] [.ptr 1 0, iv (r.2 : Int), iv 0] [.box 33 (wCells w), .box 33 (wCells r.1), .box 97 (xC r.1 r.2)] ?_ ?_
    · unfold wCells ivs xC
      generalize w.code.map encIns = d1
      generalize w.tso.mem.words.map iv = d2
      generalize w.tso.mem.tags.map iv = d3
      generalize w.tso.bufs.map encBuf = d4
      generalize w.thr.map encThr = d5
      generalize w.evs.map encEvt = d6
      refine jorders (Ls := [[0, 1, 2, 3, 4, 5, 6, 7, 8, 9, 10], [0, 1, 2, 3, 4, 5, 6, 8, 7, 9, 10], [0, 1, 2, 3, 4, 5, 8, 6, 7, 9, 10], [0, 1, 2, 3, 4, 8, 5, 6, 7, 9, 10], [0, 1, 2, 3, 8, 4, 5, 6, 7, 9, 10], [0, 1, 2, 4, 3, 5, 6, 7, 8, 9, 10], [0, 1, 2, 4, 3, 5, 6, 8, 7, 9, 10], [0, 1, 2, 4, 3, 5, 8, 6, 7, 9, 10], [0, 1, 2, 4, 3, 8, 5, 6, 7, 9, 10], [0, 1, 2, 4, 5, 3, 6, 7, 8, 9, 10], [0, 1, 2, 4, 5, 3, 6, 8, 7, 9, 10], [0, 1, 2, 4, 5, 3, 8, 6, 7, 9, 10], [0, 1, 2, 4, 5, 6, 3, 7, 8, 9, 10], [0, 1, 2, 4, 5, 6, 3, 8, 7, 9, 10], [0, 1, 2, 4, 5, 6, 7, 3, 8, 9, 10], [0, 1, 4, 2, 3, 5, 6, 7, 8, 9, 10], [0, 1, 4, 2, 3, 5, 6, 8, 7, 9, 10], [0, 1, 4, 2, 3, 5, 8, 6, 7, 9, 10], [0, 1, 4, 2, 3, 8, 5, 6, 7, 9, 10], [0, 1, 4, 2, 5, 3, 6, 7, 8, 9, 10], [0, 1, 4, 2, 5, 3, 6, 8, 7, 9, 10], [0, 1, 4, 2, 5, 3, 8, 6, 7, 9, 10], [0, 1, 4, 2, 5, 6, 3, 7, 8, 9, 10], [0, 1, 4, 2, 5, 6, 3, 8, 7, 9, 10], [0, 1, 4, 2, 5, 6, 7, 3, 8, 9, 10], [0, 1, 4, 5, 2, 3, 6, 7, 8, 9, 10], [0, 1, 4, 5, 2, 3, 6, 8, 7, 9, 10], [0, 1, 4, 5, 2, 3, 8, 6, 7, 9, 10], [0, 1, 4, 5, 2, 6, 3, 7, 8, 9, 10], [0, 1, 4, 5, 2, 6, 3, 8, 7, 9, 10], [0, 1, 4, 5, 2, 6, 7, 3, 8, 9, 10], [0, 1, 4, 5, 6, 2, 3, 7, 8, 9, 10], [0, 1, 4, 5, 6, 2, 3, 8, 7, 9, 10], [0, 1, 4, 5, 6, 2, 7, 3, 8, 9, 10], [0, 1, 4, 5, 6, 7, 2, 3, 8, 9, 10], [0, 4, 1, 2, 3, 5, 6, 7, 8, 9, 10], [0, 4, 1, 2, 3, 5, 6, 8, 7, 9, 10], [0, 4, 1, 2, 3, 5, 8, 6, 7, 9, 10], [0, 4, 1, 2, 3, 8, 5, 6, 7, 9, 10], [0, 4, 1, 2, 5, 3, 6, 7, 8, 9, 10], [0, 4, 1, 2, 5, 3, 6, 8, 7, 9, 10], [0, 4, 1, 2, 5, 3, 8, 6, 7, 9, 10], [0, 4, 1, 2, 5, 6, 3, 7, 8, 9, 10], [0, 4, 1, 2, 5, 6, 3, 8, 7, 9, 10], [0, 4, 1, 2, 5, 6, 7, 3, 8, 9, 10], [0, 4, 1, 5, 2, 3, 6, 7, 8, 9, 10], [0, 4, 1, 5, 2, 3, 6, 8, 7, 9, 10], [0, 4, 1, 5, 2, 3, 8, 6, 7, 9, 10], [0, 4, 1, 5, 2, 6, 3, 7, 8, 9, 10], [0, 4, 1, 5, 2, 6, 3, 8, 7, 9, 10], [0, 4, 1, 5, 2, 6, 7, 3, 8, 9, 10], [0, 4, 1, 5, 6, 2, 3, 7, 8, 9, 10], [0, 4, 1, 5, 6, 2, 3, 8, 7, 9, 10], [0, 4, 1, 5, 6, 2, 7, 3, 8, 9, 10], [0, 4, 1, 5, 6, 7, 2, 3, 8, 9, 10], [0, 4, 5, 1, 2, 3, 6, 7, 8, 9, 10], [0, 4, 5, 1, 2, 3, 6, 8, 7, 9, 10], [0, 4, 5, 1, 2, 3, 8, 6, 7, 9, 10], [0, 4, 5, 1, 2, 6, 3, 7, 8, 9, 10], [0, 4, 5, 1, 2, 6, 3, 8, 7, 9, 10], [0, 4, 5, 1, 2, 6, 7, 3, 8, 9, 10], [0, 4, 5, 1, 6, 2, 3, 7, 8, 9, 10], [0, 4, 5, 1, 6, 2, 3, 8, 7, 9, 10], [0, 4, 5, 1, 6, 2, 7, 3, 8, 9, 10], [0, 4, 5, 1, 6, 7, 2, 3, 8, 9, 10], [0, 4, 5, 6, 1, 2, 3, 7, 8, 9, 10], [0, 4, 5, 6, 1, 2, 3, 8, 7, 9, 10], [0, 4, 5, 6, 1, 2, 7, 3, 8, 9, 10], [0, 4, 5, 6, 1, 7, 2, 3, 8, 9, 10], [0, 4, 5, 6, 7, 1, 2, 3, 8, 9, 10], [4, 0, 1, 2, 3, 5, 6, 7, 8, 9, 10], [4, 0, 1, 2, 3, 5, 6, 8, 7, 9, 10], [4, 0, 1, 2, 3, 5, 8, 6, 7, 9, 10], [4, 0, 1, 2, 3, 8, 5, 6, 7, 9, 10], [4, 0, 1, 2, 5, 3, 6, 7, 8, 9, 10], [4, 0, 1, 2, 5, 3, 6, 8, 7, 9, 10], [4, 0, 1, 2, 5, 3, 8, 6, 7, 9, 10], [4, 0, 1, 2, 5, 6, 3, 7, 8, 9, 10], [4, 0, 1, 2, 5, 6, 3, 8, 7, 9, 10], [4, 0, 1, 2, 5, 6, 7, 3, 8, 9, 10], [4, 0, 1, 5, 2, 3, 6, 7, 8, 9, 10], [4, 0, 1, 5, 2, 3, 6, 8, 7, 9, 10], [4, 0, 1, 5, 2, 3, 8, 6, 7, 9, 10], [4, 0, 1, 5, 2, 6, 3, 7, 8, 9, 10], [4, 0, 1, 5, 2, 6, 3, 8, 7, 9, 10], [4, 0, 1, 5, 2, 6, 7, 3, 8, 9, 10], [4, 0, 1, 5, 6, 2, 3, 7, 8, 9, 10], [4, 0, 1, 5, 6, 2, 3, 8, 7, 9, 10], [4, 0, 1, 5, 6, 2, 7, 3, 8, 9, 10], [4, 0, 1, 5, 6, 7, 2, 3, 8, 9, 10], [4, 0, 5, 1, 2, 3, 6, 7, 8, 9, 10], [4, 0, 5, 1, 2, 3, 6, 8, 7, 9, 10], [4, 0, 5, 1, 2, 3, 8, 6, 7, 9, 10], [4, 0, 5, 1, 2, 6, 3, 7, 8, 9, 10], [4, 0, 5, 1, 2, 6, 3, 8, 7, 9, 10], [4, 0, 5, 1, 2, 6, 7, 3, 8, 9, 10], [4, 0, 5, 1, 6, 2, 3, 7, 8, 9, 10], [4, 0, 5, 1, 6, 2, 3, 8, 7, 9, 10], [4, 0, 5, 1, 6, 2, 7, 3, 8, 9, 10], [4, 0, 5, 1, 6, 7, 2, 3, 8, 9, 10], [4, 0, 5, 6, 1, 2, 3, 7, 8, 9, 10], [4, 0, 5, 6, 1, 2, 3, 8, 7, 9, 10], [4, 0, 5, 6, 1, 2, 7, 3, 8, 9, 10], [4, 0, 5, 6, 1, 7, 2, 3, 8, 9, 10], [4, 0, 5, 6, 7, 1, 2, 3, 8, 9, 10], [4, 5, 0, 1, 2, 3, 6, 7, 8, 9, 10], [4, 5, 0, 1, 2, 3, 6, 8, 7, 9, 10], [4, 5, 0, 1, 2, 3, 8, 6, 7, 9, 10], [4, 5, 0, 1, 2, 6, 3, 7, 8, 9, 10], [4, 5, 0, 1, 2, 6, 3, 8, 7, 9, 10], [4, 5, 0, 1, 2, 6, 7, 3, 8, 9, 10], [4, 5, 0, 1, 6, 2, 3, 7, 8, 9, 10], [4, 5, 0, 1, 6, 2, 3, 8, 7, 9, 10], [4, 5, 0, 1, 6, 2, 7, 3, 8, 9, 10], [4, 5, 0, 1, 6, 7, 2, 3, 8, 9, 10], [4, 5, 0, 6, 1, 2, 3, 7, 8, 9, 10], [4, 5, 0, 6, 1, 2, 3, 8, 7, 9, 10], [4, 5, 0, 6, 1, 2, 7, 3, 8, 9, 10], [4, 5, 0, 6, 1, 7, 2, 3, 8, 9, 10], [4, 5, 0, 6, 7, 1, 2, 3, 8, 9, 10], [4, 5, 6, 0, 1, 2, 3, 7, 8, 9, 10], [4, 5, 6, 0, 1, 2, 3, 8, 7, 9, 10], [4, 5, 6, 0, 1, 2, 7, 3, 8, 9, 10], [4, 5, 6, 0, 1, 7, 2, 3, 8, 9, 10], [4, 5, 6, 0, 7, 1, 2, 3, 8, 9, 10], [4, 5, 6, 7, 0, 1, 2, 3, 8, 9, 10]]) (by kernel_rfl) ?_
      repeat' (first | exact List.forall_mem_nil _ | refine List.forall_mem_cons.2 ⟨?_, ?_⟩)
      all_goals (
        repeat (first | refine js rfl ?_ | (refine jdraw ?_ ?_; · kernel_rfl) | refine jbu rfl rfl rfl rfl ?_)
      )
      all_goals exact jmeet rfl rfl
    · unfold wCells ivs xC
      repeat (first | refine js rfl ?_ | (refine jdraw ?_ ?_; · kernel_rfl) | refine jbu rfl rfl rfl rfl ?_)
      exact jr rfl rfl rfl rfl
end Go.AL
end
section
set_option maxRecDepth 100000
namespace Go.AL
open Go Go.Proofs
attribute [local irreducible] J
theorem sdoW_ok (w : Wd) (a : Act) (h : WdR w) (he : w.evs.length ≤ 900000) : ACalls Tryz.prog 17 [encWd w, encAct a] [] (one (.tup [encWd (actW w a).1, bv (actW w a).2, iv 0]) []) := by
  have h1 := right_yes w h
  have h2 := act_ok w 0 a h (by omega) (by omega)
  generalize actW w a = r at *
  unfold xH xC at h2
  unfold encWd wCells ivs encAct at *
  refine jcalls Tryz.func17 rfl (by kernel_rfl) Tryz.ntmps17 rfl rfl (fun w0 β0 ext hβ => ?_)
  repeat (first | refine js rfl ?_ | (refine jdraw ?_ ?_; · kernel_rfl) | refine jbu rfl rfl rfl rfl ?_ | refine jv h1 rfl rfl rfl rfl rfl ?_)
  refine jb [3] h2 rfl rfl rfl ⟨rfl, rfl, rfl, rfl, rfl, rfl⟩ rfl rfl rfl rfl ?_
  repeat (first | refine js rfl ?_ | (refine jdraw ?_ ?_; · kernel_rfl) | refine jbu rfl rfl rfl rfl ?_)
  exact jr rfl rfl rfl rfl
theorem idle_iff {w : Wd} : idleW w = true ↔ ∀ k, k < w.tso.bufs.length → (canW w k || decide (0 < (bufAt w.tso k).length)) = false := by
  unfold idleW
  rw [List.all_eq_true]
  constructor
  · intro h k hk
    have := h k (List.mem_range.2 hk)
    simp only [Bool.and_eq_true, Bool.not_eq_true', decide_eq_true_eq] at this
    rw [this.1, this.2]; rfl
  · intro h k hk
    have := h k (List.mem_range.1 hk)
    simp only [Bool.or_eq_false_iff, decide_eq_false_iff_not] at this
    simp only [Bool.and_eq_true, Bool.not_eq_true', decide_eq_true_eq]
    exact ⟨this.1, by omega⟩
theorem sidle_ok (w : Wd) (h : WdR w) : ACalls Tryz.prog 44 [encWd w] [] (one (bv (idleW w)) []) := by
  have hb8 := h.tso.sz
  have h1 := fun k (hk : k < w.tso.bufs.length) => cans_ok w k h (by rw [h.len]; exact hk)
  unfold encWd wCells ivs at *
  refine jcalls Tryz.func44 rfl (by kernel_rfl) Tryz.ntmps44 rfl rfl (fun w0 β0 ext hβ => ?_)
  repeat (first | refine js rfl ?_ | (refine jdraw ?_ ?_; · kernel_rfl) | refine jbu rfl rfl rfl rfl ?_)
  refine jloop 1 (fun q : Nat => q ≤ w.tso.bufs.length ∧ ∀ k, k < q → (canW w k || decide (0 < (bufAt w.tso k).length)) = false) [1, 2, 9, 10, 11] (fun q => [.ptr 0 0, bv false, .sl (w.tso.bufs.map encBuf), .v (.int .i64 ((w.tso.bufs.map encBuf).length : Int)), .v (.int .i64 (q : Int))])
    (fun q => [.box 33 (wCells w)]) (fun q => w.tso.bufs.length - q) 0 (by show β0.length ≤ 1; rw [hβ]; exact Nat.zero_le _) ⟨Nat.zero_le _, fun k hk => absurd hk (Nat.not_lt_zero _)⟩ rfl rfl (fun q hq => ?_)
  obtain ⟨hq, hok⟩ := hq
  unfold wCells ivs
  repeat (first | refine js rfl ?_ | (refine jdraw ?_ ?_; · kernel_rfl) | refine jbu rfl rfl rfl rfl ?_)
  refine jc rfl rfl rfl (fun h => ?_) (fun h => ?_)
  · have h := of_decide_eq_true h
    rw [List.length_map] at h
    have hq2 : q < w.tso.bufs.length := by omega
    have h1 := h1 q hq2
    have hidx : IntKind.i64.wrap ((q : Int) + 1) = ((q + 1 : Nat) : Int) := idx_next hq2 (by omega)
    have hnx : (canW w q || decide (0 < (bufAt w.tso q).length)) = false → ∀ k, k < q + 1 → (canW w k || decide (0 < (bufAt w.tso k).length)) = false := fun hb k hk => by
      by_cases e : k = q
      · subst e; exact hb
      · exact hok k (by omega)
    have hno : (canW w q || decide (0 < (bufAt w.tso q).length)) = true → idleW w = false := fun hb => by
      cases hi : idleW w with
      | false => rfl
      | true => have := idle_iff.1 hi q hq2; rw [hb] at this; cases this
    have hd : decide ((((at' w.tso.bufs (q : Int)).map encPut).length : Int) > 0) = decide (0 < (bufAt w.tso q).length) := by rw [List.length_map, bufAt_at]; exact decide_eq_decide.2 (by omega)
    generalize canW w q = b at *
    repeat (first | refine js rfl ?_ | (refine jdraw ?_ ?_; · kernel_rfl) | refine jbu rfl rfl rfl rfl ?_ | refine jo rfl rfl (index_at rfl rfl rfl rfl rfl rfl rfl rfl (Int.natCast_nonneg q) h) rfl rfl ?_ | refine jv h1 rfl rfl rfl rfl rfl ?_)
    cases b with
    | true =>
      rw [hno rfl]
      repeat (first | refine js rfl ?_ | (refine jdraw ?_ ?_; · kernel_rfl) | refine jbu rfl rfl rfl rfl ?_)
      exact jr rfl rfl rfl rfl
    | false =>
      repeat (first | refine js rfl ?_ | (refine jdraw ?_ ?_; · kernel_rfl) | refine jbu rfl rfl rfl rfl ?_)
      rw [hd]
      cases hb : decide (0 < (bufAt w.tso q).length) with
      | true =>
        rw [hb] at hno
        rw [hno rfl]
        repeat (first | refine js rfl ?_ | (refine jdraw ?_ ?_; · kernel_rfl) | refine jbu rfl rfl rfl rfl ?_)
        exact jr rfl rfl rfl rfl
      | false =>
        rw [hb] at hnx
        repeat (first | refine js rfl ?_ | (refine jdraw ?_ ?_; · kernel_rfl) | refine jbu rfl rfl rfl rfl ?_)
        refine jnext (q + 1) ⟨hq2, hnx rfl⟩ (by omega) rfl rfl rfl ?_ rfl
        rw [hidx]; rfl
  · have h := of_decide_eq_false h
    rw [List.length_map] at h
    rw [idle_iff.2 fun k hk => hok k (by omega)]
    repeat (first | refine js rfl ?_ | (refine jdraw ?_ ?_; · kernel_rfl) | refine jbu rfl rfl rfl rfl ?_)
    exact jr rfl rfl rfl rfl
theorem sIdle_ok (w : Wd) (h : WdR w) : ACalls Tryz.prog 19 [encWd w] [] (one (.tup [bv (idleW w), iv 0]) []) := by
  have h1 := right_yes w h
  have h2 := sidle_ok w h
  unfold encWd wCells ivs at *
  refine jcalls Tryz.func19 rfl (by kernel_rfl) Tryz.ntmps19 rfl rfl (fun w0 β0 ext hβ => ?_)
  repeat (first | refine js rfl ?_ | (refine jdraw ?_ ?_; · kernel_rfl) | refine jbu rfl rfl rfl rfl ?_ | refine jv h1 rfl rfl rfl rfl rfl ?_ | refine jv h2 rfl rfl rfl rfl rfl ?_)
  exact jr rfl rfl rfl rfl
def rdP (s : Wd × Nat) (k : Nat) : Wd × Nat := (List.range k).foldl (fun (s : Wd × Nat) (i : Nat) => ((actW (actW s.1 ⟨0, i⟩).1 ⟨1, i⟩).1, cntB (cntB s.2 (actW s.1 ⟨0, i⟩).2) (actW (actW s.1 ⟨0, i⟩).1 ⟨1, i⟩).2)) s
theorem rdP_succ (s : Wd × Nat) (k : Nat) : rdP s (k + 1) = ((actW (actW (rdP s k).1 ⟨0, k⟩).1 ⟨1, k⟩).1, cntB (cntB (rdP s k).2 (actW (rdP s k).1 ⟨0, k⟩).2) (actW (actW (rdP s k).1 ⟨0, k⟩).1 ⟨1, k⟩).2) := by
  unfold rdP
  rw [List.range_succ, List.foldl_append]
  rfl
theorem rdP_round (w : Wd) (n : Nat) : (rdP (w, n) w.thr.length).1 = roundW w := by
  unfold rdP roundW
  generalize List.range w.thr.length = l
  generalize hs : (w, n) = s
  have e : w = s.1 := by rw [← hs]
  rw [e]
  clear hs e
  induction l generalizing s with
  | nil => rfl
  | cons a l ih => exact ih _
theorem cntB_le (n : Nat) (b : Bool) : cntB n b ≤ n + 1 := by cases b <;> simp [cntB]
theorem rdP_right {s : Wd × Nat} (h : WdR s.1) : ∀ k, WdR (rdP s k).1 ∧ (rdP s k).1.evs.length ≤ s.1.evs.length + 2 * k ∧ (rdP s k).2 ≤ s.2 + 2 * k ∧ (rdP s k).1.thr.length = s.1.thr.length ∧ (rdP s k).1.code = s.1.code
  | 0 => ⟨h, Nat.le_refl _, Nat.le_refl _, rfl, rfl⟩
  | k + 1 => by
    obtain ⟨a1, a2, a3, a4, a5⟩ := rdP_right h k
    rw [rdP_succ]
    generalize rdP s k = r at *
    obtain ⟨b1, b2, b3, b4⟩ := actW_right ⟨0, k⟩ a1
    obtain ⟨c1, c2, c3, c4⟩ := actW_right ⟨1, k⟩ b1
    have d1 := cntB_le r.2 (actW r.1 ⟨0, k⟩).2
    have d2 := cntB_le (cntB r.2 (actW r.1 ⟨0, k⟩).2) (actW (actW r.1 ⟨0, k⟩).1 ⟨1, k⟩).2
    exact ⟨c1, by simp only; omega, by simp only; omega, by rw [c3, b3, a4], by rw [c4, b4, a5]⟩
structure RdI (w : Wd) (m : Nat) (s : Nat × Wd × Nat) : Prop where
  le : s.1 ≤ m
  right : WdR s.2.1
  thr : s.2.1.thr.length = w.thr.length
  evs : s.2.1.evs.length ≤ w.evs.length + 16 * s.1
  cnt : s.2.2 ≤ 16 * s.1
  eq : roundsW w m = ((roundsW s.2.1 (m - s.1)).1, s.1 + (roundsW s.2.1 (m - s.1)).2)
theorem rounds_ok (w : Wd) (m : Nat) (h : WdR w) (he : w.evs.length ≤ 500000) (hm : m ≤ 10000) : ACalls Tryz.prog 23 [encWd w, iv (m : Int)] [] (one (.tup [encWd (roundsW w m).1, iv ((roundsW w m).2 : Int), iv 0]) []) := by
  have h1 := right_yes w h
  have hb8 := h.tso.sz
  have hl8 : w.thr.length ≤ 8 := by rw [h.len]; omega
  have e1 : decide ((m : Int) < 0) = false := decide_eq_false (by omega)
  have e2 : decide ((m : Int) > 10000) = false := decide_eq_false (by omega)
  unfold encWd wCells ivs at *
  refine jcalls Tryz.func23 rfl (by kernel_rfl) Tryz.ntmps23 rfl rfl (fun w0 β0 ext hβ => ?_)
  repeat (first | refine js rfl ?_ | (refine jdraw ?_ ?_; · kernel_rfl) | refine jbu rfl rfl rfl rfl ?_ | refine jv h1 rfl rfl rfl rfl rfl ?_)
  rw [e1]
  repeat (first | refine js rfl ?_ | (refine jdraw ?_ ?_; · kernel_rfl) | refine jbu rfl rfl rfl rfl ?_)
  rw [e2]
  repeat (first | refine js rfl ?_ | (refine jdraw ?_ ?_; · kernel_rfl) | refine jbu rfl rfl rfl rfl ?_)
  refine jfin 3 [1, 2, 4, 5, 6, 7, 8] true rfl rfl rfl (by show β0.length ≤ 3; rw [hβ]; exact Nat.zero_le _) ?_
  refine jloop 3 (RdI w m) [1, 2, 4, 5, 6, 7, 8] (fun s => [iv (m : Int), .ptr 0 0, .ptr 1 0, iv 0, iv 0, .ptr 2 0, iv (s.1 : Int)])
    (fun s => [.box 33 (wCells w), .box 33 w0C, .box 97 (xC s.2.1 s.2.2)]) (fun s => m - s.1) (0, w, 0) (by show β0.length ≤ 3; rw [hβ]; exact Nat.zero_le _)
    ⟨Nat.zero_le _, h, rfl, Nat.le_refl _, Nat.le_refl _, by simp⟩ rfl rfl (fun s hs => ?_)
  obtain ⟨j, x, c⟩ := s
  obtain ⟨i1, i2, i3, i4, i5, i6⟩ := hs
  simp only at i1 i2 i3 i4 i5 i6
  have hid := sidle_ok x i2
  unfold wCells ivs xC w0C
  simp only
  repeat (first | refine js rfl ?_ | (refine jdraw ?_ ?_; · kernel_rfl) | refine jbu rfl rfl rfl rfl ?_)
  by_cases hj : j < m
  · rw [show decide ((j : Int) < (m : Int)) = true from decide_eq_true (by omega)]
    obtain ⟨m', hm'⟩ : ∃ m', m - j = m' + 1 := ⟨m - j - 1, by omega⟩
    rw [hm'] at i6
    unfold encWd wCells ivs at hid
    repeat (first | refine js rfl ?_ | (refine jdraw ?_ ?_; · kernel_rfl) | refine jbu rfl rfl rfl rfl ?_ | refine jv hid rfl rfl rfl rfl rfl ?_)
    cases hb : idleW x with
    | true =>
      have : roundsW w m = (x, j) := by
        rw [i6, roundsW, hb]; rfl
      rw [this]
      repeat (first | refine js rfl ?_ | (refine jdraw ?_ ?_; · kernel_rfl) | refine jbu rfl rfl rfl rfl ?_)
      exact jr rfl rfl rfl rfl
    | false =>
      repeat (first | refine js rfl ?_ | (refine jdraw ?_ ?_; · kernel_rfl) | refine jbu rfl rfl rfl rfl ?_)
      refine jloop 3 (fun q : Nat => q ≤ w.thr.length) [1, 2, 4, 5, 6, 7, 8, 38, 39] (fun q => [iv (m : Int), .ptr 0 0, .ptr 1 0, iv 0, iv 0, .ptr 2 0, iv (j : Int), .v (.int .i64 ((w.thr.map encThr).length : Int)), .v (.int .i64 (q : Int))])
        (fun q => [.box 33 (wCells w), .box 33 w0C, .box 97 (xC (rdP (x, c) q).1 (rdP (x, c) q).2)]) (fun q => w.thr.length - q) 0 (by show β0.length ≤ 3; rw [hβ]; exact Nat.zero_le _) (Nat.zero_le _) rfl rfl (fun q hq => ?_)
      obtain ⟨r1, r2, r3, r4, r5⟩ := rdP_right (s := (x, c)) i2 q
      simp only at r2 r3 r4
      unfold wCells ivs xC w0C
      repeat (first | refine js rfl ?_ | (refine jdraw ?_ ?_; · kernel_rfl) | refine jbu rfl rfl rfl rfl ?_)
      refine jc rfl rfl rfl (fun h => ?_) (fun h => ?_)
      · have h := of_decide_eq_true h
        rw [List.length_map] at h
        have hq2 : q < w.thr.length := by omega
        have hsc := rdP_succ (x, c) q
        have hidx : IntKind.i64.wrap ((q : Int) + 1) = ((q + 1 : Nat) : Int) := idx_next hq2 (by omega)
        have h3 := xstep_ok (rdP (x, c) q).1 (rdP (x, c) q).2 q r1 (by omega) (by omega)
        have hr := actW_right (w := (rdP (x, c) q).1) ⟨0, q⟩ r1
        have hc1 := cntB_le (rdP (x, c) q).2 (actW (rdP (x, c) q).1 ⟨0, q⟩).2
        have h4 := xflush_ok (actW (rdP (x, c) q).1 ⟨0, q⟩).1 (cntB (rdP (x, c) q).2 (actW (rdP (x, c) q).1 ⟨0, q⟩).2) q hr.1 (by omega)
        generalize actW (actW (rdP (x, c) q).1 ⟨0, q⟩).1 ⟨1, q⟩ = R2 at *
        generalize hR1 : actW (rdP (x, c) q).1 ⟨0, q⟩ = R1 at *
        generalize rdP (x, c) q = P at *
        unfold xH xC at h3 h4
        repeat (first | refine js rfl ?_ | (refine jdraw ?_ ?_; · kernel_rfl) | refine jbu rfl rfl rfl rfl ?_)
        refine jb [2] h3 rfl rfl rfl ⟨rfl, rfl, rfl, rfl, rfl, rfl⟩ rfl rfl rfl rfl ?_
        repeat (first | refine js rfl ?_ | (refine jdraw ?_ ?_; · kernel_rfl) | refine jbu rfl rfl rfl rfl ?_)
        refine jb [2] h4 rfl rfl rfl ⟨rfl, rfl, rfl, rfl, rfl, rfl⟩ rfl rfl rfl rfl ?_
        repeat (first | refine js rfl ?_ | (refine jdraw ?_ ?_; · kernel_rfl) | refine jbu rfl rfl rfl rfl ?_)
        refine jnext (q + 1) hq2 (by omega) rfl rfl rfl ?_ ?_
        · rw [hidx]; rfl
        · rw [hsc]; rfl
      · have h := of_decide_eq_false h
        rw [List.length_map] at h
        have hqe : q = w.thr.length := by omega
        subst hqe
        have hrd := rdP_round x c
        rw [i3] at hrd
        have hidx : IntKind.i64.wrap ((j : Int) + 1) = ((j + 1 : Nat) : Int) := by rw [wrap_id] <;> omega
        repeat (first | refine js rfl ?_ | (refine jdraw ?_ ?_; · kernel_rfl) | refine jbu rfl rfl rfl rfl ?_)
        rw [hidx]
        repeat (first | refine js rfl ?_ | (refine jdraw ?_ ?_; · kernel_rfl) | refine jbu rfl rfl rfl rfl ?_)
        refine jnext (j + 1, (rdP (x, c) w.thr.length).1, (rdP (x, c) w.thr.length).2) ⟨by simp only; omega, r1, by simp only; rw [r4, i3], by simp only; omega, by simp only; omega, ?_⟩ (by simp only; omega) rfl rfl rfl rfl rfl
        simp only
        rw [i6, roundsW, hb, hrd, show m - (j + 1) = m' by omega]
        simp only [cond_false]
        congr 1
        omega
  · have : j = m := by omega
    subst this
    rw [show decide ((j : Int) < (j : Int)) = false from decide_eq_false (by omega)]
    have : roundsW w j = (x, j) := by
      rw [i6, Nat.sub_self]; rfl
    rw [this]
    repeat (first | refine js rfl ?_ | (refine jdraw ?_ ?_; · kernel_rfl) | refine jbu rfl rfl rfl rfl ?_)
    exact jr rfl rfl rfl rfl
end Go.AL
end
section
set_option maxRecDepth 100000
namespace Go.AL
open Go Go.Proofs
attribute [local irreducible] J
def thrP (a : Int) : Thr := { thr0 with pc := a }
def newOk (code : List Ins) (st : List Int) (m : Mem) (d : Int) : Wd := ⟨code, ⟨m, d, List.replicate st.length []⟩, st.map thrP, []⟩
def newW (code : List Ins) (st : List Int) (m : Mem) (d : Int) : Wd × Int :=
  cond (rightC code && mRight m) (cond (inn st.length 1 8 && inn d 0 8) (cond (st.all fun a => inn a 0 code.length) (newOk code st m d, 0) (wd0, 3)) (wd0, 2)) (wd0, 1)
theorem thr_weak (a : Int) (c : Ctx) (u : Value) (h : Rel c (.agg [iv a, iv 0, iv 0, iv 0, iv 0, iv 0, iv 0, iv 0, iv 0, .slf [], iv 0, iv 0, .slf []]) u) : Rel c (encThr (thrP a)) u := by
  obtain ⟨cs, e, h⟩ := h
  refine ⟨cs, e, ?_⟩
  revert h
  have key : ∀ us, RelL c [iv a, iv 0, iv 0, iv 0, iv 0, iv 0, iv 0, iv 0, iv 0, .slf [], iv 0, iv 0, .slf []] us → RelL c [iv a, iv 0, iv 0, iv 0, iv 0, iv 0, iv 0, iv 0, iv 0, .sl [], iv 0, iv 0, .slz []] us := by
    iterate 9 refine relL_cons (fun u h => h) ?_
    refine relL_cons (fun u h => sl_weak h) ?_
    iterate 2 refine relL_cons (fun u h => h) ?_
    exact relL_cons (fun u h => slf_slz h) (fun us h => h)
  exact key _
theorem elemsP (l : List Int) : ∀ x : Int, (encThr (thrP x)).cells.length = 13 ∧ (encThr (thrP x)).flat = true := fun x => ⟨rfl, rfl⟩
theorem wnew_ok (code : List Ins) (st : List Int) (m : Mem) (d : Int) (hc : code.length ≤ 1000000) (hs : st.length ≤ 1000000) (hm : m.words.length ≤ 1000000 ∧ m.tags.length ≤ 1000000) :
    ACalls Tryz.prog 28 [encIs code, ivs st, encMem m, iv d] [] (one (.tup [encWd (newW code st m d).1, iv (newW code st m d).2]) []) := by
  have h1 := right_ok code hc
  have h2 := mem_right m hm.1 hm.2
  have h3 := tnew_ok m (st.length : Int) d hm
  unfold newW
  cases b1 : rightC code with
  | false =>
    rw [b1] at h1
    unfold encIs at h1
    unfold encWd wCells encIs ivs encMem mCells at *
    refine jcalls Tryz.func28 rfl (by kernel_rfl) Tryz.ntmps28 rfl rfl (fun w0 β0 ext hβ => ?_)
    repeat (first | refine js rfl ?_ | (refine jdraw ?_ ?_; · kernel_rfl) | refine jbu rfl rfl rfl rfl ?_ | refine jv h1 rfl rfl rfl rfl rfl ?_)
    exact jr rfl rfl rfl rfl
  | true =>
    rw [b1] at h1
    cases b2 : mRight m with
    | false =>
      rw [b2] at h2
      unfold encIs at h1
      unfold encWd wCells encIs ivs encMem mCells at *
      unfold ivs at *
      refine jcalls Tryz.func28 rfl (by kernel_rfl) Tryz.ntmps28 rfl rfl (fun w0 β0 ext hβ => ?_)
      repeat (first | refine js rfl ?_ | (refine jdraw ?_ ?_; · kernel_rfl) | refine jbu rfl rfl rfl rfl ?_ | refine jv h1 rfl rfl rfl rfl rfl ?_ | refine jv h2 rfl rfl rfl rfl rfl ?_)
      exact jr rfl rfl rfl rfl
    | true =>
      rw [b2] at h2 h3
      have hlm : ((st.map iv).length : Int) = (st.length : Int) := by rw [List.length_map]
      cases b3 : (inn (st.length : Int) 1 8 && inn d 0 8) with
      | false =>
        rw [b3] at h3
        unfold encIs at h1
        unfold encTso tCells at h3
        unfold encWd wCells encIs encMem mCells at *
        unfold ivs at *
        refine jcalls Tryz.func28 rfl (by kernel_rfl) Tryz.ntmps28 rfl rfl (fun w0 β0 ext hβ => ?_)
        repeat (first | refine js rfl ?_ | (refine jdraw ?_ ?_; · kernel_rfl) | refine jbu rfl rfl rfl rfl ?_ | refine jv h1 rfl rfl rfl rfl rfl ?_ | refine jv h2 rfl rfl rfl rfl rfl ?_)
        rw [hlm]
        repeat (first | refine js rfl ?_ | (refine jdraw ?_ ?_; · kernel_rfl) | refine jbu rfl rfl rfl rfl ?_ | refine jv h3 rfl rfl rfl rfl rfl ?_)
        exact jr rfl rfl rfl rfl
      | true =>
        rw [b3] at h3
        simp only [Bool.and_true, cond_true, Int.toNat_natCast] at h3 ⊢
        have b3' := (Bool.and_eq_true _ _ ▸ b3)
        have hs8 := inn_iff.1 b3'.1
        obtain ⟨hz1, hz2⟩ := allAt (l := st) (p := fun a => inn a 0 (code.length : Int))
        unfold encIs at h1
        unfold encTso tCells at h3
        unfold encWd wCells encIs encMem mCells at *
        unfold ivs at *
        refine jcalls Tryz.func28 rfl (by kernel_rfl) Tryz.ntmps28 rfl rfl (fun w0 β0 ext hβ => ?_)
        repeat (first | refine js rfl ?_ | (refine jdraw ?_ ?_; · kernel_rfl) | refine jbu rfl rfl rfl rfl ?_ | refine jv h1 rfl rfl rfl rfl rfl ?_ | refine jv h2 rfl rfl rfl rfl rfl ?_)
        rw [hlm]
        repeat (first | refine js rfl ?_ | (refine jdraw ?_ ?_; · kernel_rfl) | refine jbu rfl rfl rfl rfl ?_ | refine jv h3 rfl rfl rfl rfl rfl ?_)
        refine jadB 3 5 87 13 rfl rfl rfl rfl ?_
        refine jloopI (fun q : Nat => q ≤ st.length ∧ ∀ p, p < q → inn (at' st (p : Int)) 0 (code.length : Int) = true) [0, 8, 9, 12, 39, 40, 41] (fun q => [.sl (code.map encIns), .ptr 1 0, iv 0, .ptr 3 0, .sl (st.map iv), .v (.int .i64 ((st.map iv).length : Int)), .v (.int .i64 (q : Int))])
          (fun q => [.box 25 [.sl (m.words.map iv), .sl (m.tags.map iv)], .box 33 [.slf [], .slf [], .slf [], iv 0, .slf [], .slf [], .slf []], .box 29 [.sl (m.words.map iv), .sl (m.tags.map iv), iv d, .sl ((List.replicate st.length ([] : List Wput)).map encBuf)],
            .box 33 [.sl (code.map encIns), .sl (m.words.map iv), .sl (m.tags.map iv), iv d, .sl ((List.replicate st.length ([] : List Wput)).map encBuf), .arr 4 (q + 1), .slf []], .arr (q + 1) 87 13 ((st.take q).map fun a => encThr (thrP a))]) (fun q => st.length - q) 0 ⟨Nat.zero_le _, fun p hp => absurd hp (Nat.not_lt_zero _)⟩ rfl rfl (fun q hq => ?_)
        obtain ⟨hq, hok⟩ := hq
        repeat (first | refine js rfl ?_ | (refine jdraw ?_ ?_; · kernel_rfl) | refine jbu rfl rfl rfl rfl ?_)
        refine jc rfl rfl rfl (fun h => ?_) (fun h => ?_)
        · have h := of_decide_eq_true h
          rw [List.length_map] at h
          have hq2 : q < st.length := by omega
          have hidx : IntKind.i64.wrap ((q : Int) + 1) = ((q + 1 : Nat) : Int) := idx_next hq2 (by omega)
          have htk : (st.take q) ++ [at' st (q : Int)] = st.take (q + 1) := by rw [at_nat st q hq2, List.take_add_one, List.getElem?_eq_getElem hq2]; rfl
          have hln : (st.take q).length ≤ 8 := by rw [List.length_take]; omega
          have hno := hz2 q hq2
          have hnx : inn (at' st (q : Int)) 0 (code.length : Int) = true → ∀ p, p < q + 1 → inn (at' st (p : Int)) 0 (code.length : Int) = true := fun hb p hp => by
            by_cases e : p = q
            · subst e; exact hb
            · exact hok p (by omega)
          repeat (first | refine js rfl ?_ | (refine jdraw ?_ ?_; · kernel_rfl) | refine jbu rfl rfl rfl rfl ?_ | refine jo rfl rfl (index_at rfl rfl rfl rfl rfl rfl rfl rfl (Int.natCast_nonneg q) h) rfl rfl ?_)
          generalize at' st (q : Int) = a at *
          by_cases g1 : a < 0
          · rw [show decide (a < 0) = true from decide_eq_true g1]
            rw [hno (by cases hi : inn a 0 (code.length : Int) with | false => rfl | true => have := inn_iff.1 hi; omega)]
            repeat (first | refine js rfl ?_ | (refine jdraw ?_ ?_; · kernel_rfl) | refine jbu rfl rfl rfl rfl ?_)
            exact jr rfl rfl rfl rfl
          · rw [show decide (a < 0) = false from decide_eq_false g1]
            repeat (first | refine js rfl ?_ | (refine jdraw ?_ ?_; · kernel_rfl) | refine jbu rfl rfl rfl rfl ?_)
            by_cases g2 : a > (code.length : Int)
            · rw [show decide (a > (((code.map encIns).length : Nat) : Int)) = true from decide_eq_true (by rw [List.length_map]; exact g2)]
              rw [hno (by cases hi : inn a 0 (code.length : Int) with | false => rfl | true => have := inn_iff.1 hi; omega)]
              repeat (first | refine js rfl ?_ | (refine jdraw ?_ ?_; · kernel_rfl) | refine jbu rfl rfl rfl rfl ?_)
              exact jr rfl rfl rfl rfl
            · rw [show decide (a > (((code.map encIns).length : Nat) : Int)) = false from decide_eq_false (by rw [List.length_map]; exact g2)]
              repeat (first | refine jow rfl rfl (readP_dsem rfl) (thr_weak _) rfl rfl ?_ | refine js rfl ?_ | (refine jdraw ?_ ?_; · kernel_rfl) | refine jbu rfl rfl rfl rfl ?_)
              refine jo rfl rfl (append_enc (enc := fun a => encThr (thrP a)) (l := st.take q) a rfl rfl rfl rfl rfl rfl rfl rfl rfl rfl (elemsP []) rfl (by omega) rfl rfl) rfl rfl ?_
              rw [htk]
              repeat (first | refine js rfl ?_ | (refine jdraw ?_ ?_; · kernel_rfl) | refine jbu rfl rfl rfl rfl ?_)
              refine jnextI (q + 1) ⟨by omega, hnx (inn_iff.2 ⟨by omega, by omega⟩)⟩ ?_ rfl (by omega)
              show some _ = some _
              rw [hidx]
        · have h := of_decide_eq_false h
          rw [List.length_map] at h
          have : q = st.length := by omega
          subst this
          rw [hz1 fun p hp => hok p (by omega), List.take_length]
          repeat (first | refine js rfl ?_ | (refine jdraw ?_ ?_; · kernel_rfl) | refine jbu rfl rfl rfl rfl ?_)
          have he : (st.map thrP).map encThr = st.map fun a => encThr (thrP a) := by rw [List.map_map]; rfl
          unfold newOk
          simp only [cond_true]
          rw [he]
          rcases (by omega : st.length = 1 ∨ st.length = 2 ∨ st.length = 3 ∨ st.length = 4 ∨ st.length = 5 ∨ st.length = 6 ∨ st.length = 7 ∨ st.length = 8) with e | e | e | e | e | e | e | e
          all_goals rw [e]
          all_goals exact jret [] true rfl rfl rfl ⟨rfl, rfl⟩
end Go.AL
end
section
set_option maxRecDepth 100000
namespace Go.AL
open Go Go.Proofs
attribute [local irreducible] J
def stAt (s : Bs) (ls : List Bs) : List Int := ls.map fun l => (whereP s l).1
theorem stAt_take (s : Bs) (ls : List Bs) {q : Nat} (h : q < ls.length) : stAt s (ls.take (q + 1)) = stAt s (ls.take q) ++ [(whereP s (at' ls (q : Int))).1] := by
  unfold stAt
  rw [at_nat ls q h, List.take_add_one, List.getElem?_eq_getElem h, List.map_append]
  rfl
theorem starts_ok (g : Gl) (s : Bs) (ls : List Bs) (hs : s.length ≤ 1000000) (hl : ls.length ≤ 1000) (hall : ∀ l ∈ ls, (whereP s l).2 = 0) :
    ACalls Tryz.prog 26 [sv s, .sl (ls.map sv)] (gls g) (one (.tup [ivs (stAt s ls), .v .nilIface]) (gls g)) := by
  have hw := fun w => where_ok g s w hs
  unfold gls at *
  refine jcalls Tryz.func26 rfl (by kernel_rfl) Tryz.ntmps26 rfl rfl (fun w0 β0 ext hβ => ?_)
  refine js rfl ?_; refine js rfl ?_; refine js rfl ?_
  refine js rfl ?_; refine js rfl ?_; refine js rfl ?_
  refine js rfl ?_
  refine js rfl ?_
  repeat (first | refine jad 6 3 1 rfl rfl rfl rfl ?_ | refine js rfl ?_ | (refine jdraw ?_ ?_; · kernel_rfl) | refine jbu rfl rfl rfl rfl ?_)
  refine jloopI (ι := Nat) (fun q => q ≤ ls.length) [0, 4, 5, 6, 11, 12, 13] (fun q => [sv s, .slf [], .v .nilIface, .arr 4 (q + 1), .sl (ls.map sv), .v (.int .i64 ((ls.map sv).length : Int)), .v (.int .i64 (q : Int))])
    (fun q => [g.a, g.b, g.c, g.d, .arr (q + 1) 3 1 ((stAt s (ls.take q)).map iv)]) (fun q => ls.length - q) 0 (Nat.zero_le _) rfl rfl (fun q hq => ?_)
  repeat (first | refine js rfl ?_ | (refine jdraw ?_ ?_; · kernel_rfl) | refine jbu rfl rfl rfl rfl ?_)
  refine jc rfl rfl rfl (fun h => ?_) (fun h => ?_)
  · have h := of_decide_eq_true h
    rw [List.length_map] at h
    have hq2 : q < ls.length := by omega
    have hidx : IntKind.i64.wrap ((q : Int) + 1) = ((q + 1 : Nat) : Int) := idx_next hq2 (by omega)
    have htk := stAt_take s ls hq2
    have hw := hw (at' ls (q : Int))
    have h0 := hall _ (at_mem hq2)
    have hln : (stAt s (ls.take q)).length ≤ 1000 := by unfold stAt; rw [List.length_map, List.length_take]; omega
    generalize whereP s (at' ls (q : Int)) = r at *
    obtain ⟨r1, r2⟩ := r
    simp only at h0 htk
    subst h0
    repeat (first | refine js rfl ?_ | (refine jdraw ?_ ?_; · kernel_rfl) | refine jbu rfl rfl rfl rfl ?_ | refine jo rfl rfl (index_at rfl rfl rfl rfl rfl rfl rfl rfl (Int.natCast_nonneg q) h) rfl rfl ?_)
    refine jb [0,1,2,3] hw rfl rfl rfl ⟨rfl, rfl, rfl, rfl, rfl, rfl⟩ rfl rfl rfl rfl ?_
    repeat (first | refine js rfl ?_ | (refine jdraw ?_ ?_; · kernel_rfl) | refine jbu rfl rfl rfl rfl ?_)
    refine jo rfl rfl (append_enc (enc := iv) (l := stAt s (ls.take q)) r1 rfl rfl rfl rfl rfl rfl rfl rfl rfl rfl (fun x => ⟨rfl, rfl⟩) rfl (by omega) rfl rfl) rfl rfl ?_
    rw [← htk]
    repeat (first | refine js rfl ?_ | (refine jdraw ?_ ?_; · kernel_rfl) | refine jbu rfl rfl rfl rfl ?_)
    refine jnextI (q + 1) hq2 ?_ rfl (by omega)
    show some _ = some _
    rw [hidx]
  · have h := of_decide_eq_false h
    rw [List.length_map] at h
    have : q = ls.length := by omega
    subst this
    rw [List.take_length]
    refine jpub 6 rfl rfl rfl rfl ?_
    repeat (first | refine js rfl ?_ | (refine jdraw ?_ ?_; · kernel_rfl) | refine jbu rfl rfl rfl rfl ?_)
    exact jret [] true rfl rfl rfl ⟨rfl, rfl⟩
theorem as_nil (ps : List Value) : ACalls Tryz.prog 27 [.v .nilIface, .ifc 74 (.ptr 0 0)] [.box 72 [sv []]] (one (bv false) [.box 72 [sv []]]) := by
  refine jcalls Tryz.func27 rfl (by kernel_rfl) Tryz.ntmps27 rfl rfl (fun w0 β0 ext hβ => ?_)
  repeat (first | refine js rfl ?_ | (refine jdraw ?_ ?_; · kernel_rfl) | refine jbu rfl rfl rfl rfl ?_ | refine jo rfl rfl (eq_nilI rfl rfl rfl) rfl rfl ?_)
  exact jr rfl rfl rfl rfl
theorem snew_ok (g : Gl) (s : Bs) (ls : List Bs) (m : Mem) (d : Int) (hs : s.length ≤ 100000) (hl : ls.length ≤ 1000) (hm : m.words.length ≤ 1000000 ∧ m.tags.length ≤ 1000000) (hp : (parseP s).2.2 = 0) (hall : ∀ l ∈ ls, (whereP s l).2 = 0) (hc : (parseP s).1.length ≤ 1000000) :
    ACalls Tryz.prog 8 [sv s, .sl (ls.map sv), encMem m, iv d] (gls g) (one (.tup [encWd (newW (parseP s).1 (stAt s ls) m d).1, iv (newW (parseP s).1 (stAt s ls) m d).2]) (gls g)) := by
  have h1 := parse_ok g s (by omega)
  have h2 := starts_ok g s ls (by omega) hl hall
  have h3 := as_nil []
  have h4 := wnew_ok (parseP s).1 (stAt s ls) m d hc (by unfold stAt; simp; omega) hm
  rw [hp] at h1
  generalize newW (parseP s).1 (stAt s ls) m d = r at *
  unfold gls encIs at *
  unfold encWd wCells encMem mCells ivs at *
  refine jcalls Tryz.func8 rfl (by kernel_rfl) Tryz.ntmps8 rfl rfl (fun w0 β0 ext hβ => ?_)
  repeat (first | refine js rfl ?_ | (refine jdraw ?_ ?_; · kernel_rfl) | refine jbu rfl rfl rfl rfl ?_)
  refine jb [0,1,2,3] h1 rfl rfl rfl ⟨rfl, rfl, rfl, rfl, rfl, rfl⟩ rfl rfl rfl rfl ?_
  repeat (first | refine js rfl ?_ | (refine jdraw ?_ ?_; · kernel_rfl) | refine jbu rfl rfl rfl rfl ?_)
  refine jb [0,1,2,3] h2 rfl rfl rfl ⟨rfl, rfl, rfl, rfl, rfl, rfl⟩ rfl rfl rfl rfl ?_
  repeat (first | refine js rfl ?_ | (refine jdraw ?_ ?_; · kernel_rfl) | refine jbu rfl rfl rfl rfl ?_)
  refine jb [6] h3 rfl rfl rfl ⟨rfl, rfl, rfl, rfl, rfl, rfl⟩ rfl rfl rfl rfl ?_
  repeat (first | refine js rfl ?_ | (refine jdraw ?_ ?_; · kernel_rfl) | refine jbu rfl rfl rfl rfl ?_ | refine jv h4 rfl rfl rfl rfl rfl ?_)
  exact jr rfl rfl rfl rfl
end Go.AL
end
section
set_option maxRecDepth 100000
namespace Go.AL
open Go Go.Proofs
attribute [local irreducible] J
theorem set_take_at {α : Type} [Inhabited α] (l : List α) (k : Nat) (v : α) {q : Nat} (hq : q < l.length) : (l.set k v).take (q + 1) = (l.set k v).take q ++ [if q = k then v else at' l (q : Int)] := by
  rw [List.take_add_one, List.getElem?_eq_getElem (by simpa using hq), at_nat l q hq]
  congr 1
  simp only [List.getElem_set, Option.toList_some]
  by_cases e : q = k
  · rw [if_pos e.symm, if_pos e]
  · rw [if_neg (fun h => e h.symm), if_neg e]
theorem rwith_int (l : List (Int)) (k : Nat) (v : Int) (hl : l.length ≤ 1000) : ACalls Tryz.prog 129 [.sl (l.map iv), iv (k : Int), iv v] [] (one (.sl ((l.set k v).map iv)) []) := by
  refine jcalls Tryz.func129 rfl (by kernel_rfl) Tryz.ntmps129 rfl rfl (fun w0 β0 ext hβ => ?_)
  repeat (first | refine jad 7 3 1 rfl rfl rfl rfl ?_ | refine js rfl ?_ | (refine jdraw ?_ ?_; · kernel_rfl) | refine jbu rfl rfl rfl rfl ?_)
  refine jloopI (fun q : Nat => q ≤ l.length) [1, 2, 7, 11, 12, 13] (fun q => [iv (k : Int), iv v, .arr 0 (q + 1), .sl (l.map iv), .v (.int .i64 ((l.map iv).length : Int)), .v (.int .i64 (q : Int))])
    (fun q => [.arr (q + 1) 3 1 (((l.set k v).take q).map iv)]) (fun q => l.length - q) 0 (Nat.zero_le _) rfl rfl (fun q hq => ?_)
  repeat (first | refine js rfl ?_ | (refine jdraw ?_ ?_; · kernel_rfl) | refine jbu rfl rfl rfl rfl ?_)
  refine jc rfl rfl rfl (fun h => ?_) (fun h => ?_)
  · have h := of_decide_eq_true h
    rw [List.length_map] at h
    have hq2 : q < l.length := by omega
    have hidx : IntKind.i64.wrap ((q : Int) + 1) = ((q + 1 : Nat) : Int) := idx_next hq2 (by omega)
    have htk := set_take_at l k v hq2
    have hln : ((l.set k v).take q).length ≤ 1000 := by rw [List.length_take]; omega
    repeat (first | refine js rfl ?_ | (refine jdraw ?_ ?_; · kernel_rfl) | refine jbu rfl rfl rfl rfl ?_ | refine jo rfl rfl (index_at rfl rfl rfl rfl rfl rfl rfl rfl (Int.natCast_nonneg q) h) rfl rfl ?_)
    by_cases e : q = k
    · subst e
      rw [show (((q : Int) == (q : Int))) = true from by simp]
      rw [if_pos rfl] at htk
      repeat (first | refine js rfl ?_ | (refine jdraw ?_ ?_; · kernel_rfl) | refine jbu rfl rfl rfl rfl ?_)
      refine jo rfl rfl (append_enc (enc := iv) (l := (l.set q v).take q) v rfl rfl rfl rfl rfl rfl rfl rfl rfl rfl (fun x => ⟨rfl, rfl⟩) rfl (by omega) rfl rfl) rfl rfl ?_
      rw [← htk]
      repeat (first | refine js rfl ?_ | (refine jdraw ?_ ?_; · kernel_rfl) | refine jbu rfl rfl rfl rfl ?_)
      refine jnextI (q + 1) hq2 ?_ rfl (by omega)
      show some _ = some _
      rw [hidx]
    · rw [show (((q : Int) == (k : Int))) = false from by rw [beq_eq_false_iff_ne]; omega]
      rw [if_neg e] at htk
      repeat (first | refine js rfl ?_ | (refine jdraw ?_ ?_; · kernel_rfl) | refine jbu rfl rfl rfl rfl ?_)
      refine jo rfl rfl (append_enc (enc := iv) (l := (l.set k v).take q) (at' l (q : Int)) rfl rfl rfl rfl rfl rfl rfl rfl rfl rfl (fun x => ⟨rfl, rfl⟩) rfl (by omega) rfl rfl) rfl rfl ?_
      rw [← htk]
      repeat (first | refine js rfl ?_ | (refine jdraw ?_ ?_; · kernel_rfl) | refine jbu rfl rfl rfl rfl ?_)
      refine jnextI (q + 1) hq2 ?_ rfl (by omega)
      show some _ = some _
      rw [hidx]
  · have h := of_decide_eq_false h
    rw [List.length_map] at h
    have : q = l.length := by omega
    subst this
    rw [List.take_of_length_le (by simp)]
    refine jpub 7 rfl rfl rfl rfl ?_
    repeat (first | refine js rfl ?_ | (refine jdraw ?_ ?_; · kernel_rfl) | refine jbu rfl rfl rfl rfl ?_)
    exact jret [] true rfl rfl rfl ⟨rfl, rfl⟩
theorem rwith_buf (l : List (List Wput)) (k : Nat) (v : List Wput) (hl : l.length ≤ 1000) : ACalls Tryz.prog 158 [.sl (l.map encBuf), iv (k : Int), encBuf v] [] (one (.sl ((l.set k v).map encBuf)) []) := by
  refine jcalls Tryz.func158 rfl (by kernel_rfl) Tryz.ntmps158 rfl rfl (fun w0 β0 ext hβ => ?_)
  repeat (first | refine jad 7 135 1 rfl rfl rfl rfl ?_ | refine js rfl ?_ | (refine jdraw ?_ ?_; · kernel_rfl) | refine jbu rfl rfl rfl rfl ?_)
  refine jloopI (fun q : Nat => q ≤ l.length) [1, 2, 7, 11, 12, 13] (fun q => [iv (k : Int), encBuf v, .arr 0 (q + 1), .sl (l.map encBuf), .v (.int .i64 ((l.map encBuf).length : Int)), .v (.int .i64 (q : Int))])
    (fun q => [.arr (q + 1) 135 1 (((l.set k v).take q).map encBuf)]) (fun q => l.length - q) 0 (Nat.zero_le _) rfl rfl (fun q hq => ?_)
  repeat (first | refine js rfl ?_ | (refine jdraw ?_ ?_; · kernel_rfl) | refine jbu rfl rfl rfl rfl ?_)
  refine jc rfl rfl rfl (fun h => ?_) (fun h => ?_)
  · have h := of_decide_eq_true h
    rw [List.length_map] at h
    have hq2 : q < l.length := by omega
    have hidx : IntKind.i64.wrap ((q : Int) + 1) = ((q + 1 : Nat) : Int) := idx_next hq2 (by omega)
    have htk := set_take_at l k v hq2
    have hln : ((l.set k v).take q).length ≤ 1000 := by rw [List.length_take]; omega
    repeat (first | refine js rfl ?_ | (refine jdraw ?_ ?_; · kernel_rfl) | refine jbu rfl rfl rfl rfl ?_ | refine jo rfl rfl (index_at rfl rfl rfl rfl rfl rfl rfl rfl (Int.natCast_nonneg q) h) rfl rfl ?_)
    by_cases e : q = k
    · subst e
      rw [show (((q : Int) == (q : Int))) = true from by simp]
      rw [if_pos rfl] at htk
      repeat (first | refine js rfl ?_ | (refine jdraw ?_ ?_; · kernel_rfl) | refine jbu rfl rfl rfl rfl ?_)
      refine jo rfl rfl (append_enc (enc := encBuf) (l := (l.set q v).take q) v rfl rfl rfl rfl rfl rfl rfl rfl rfl rfl (fun x => ⟨rfl, rfl⟩) rfl (by omega) rfl rfl) rfl rfl ?_
      rw [← htk]
      repeat (first | refine js rfl ?_ | (refine jdraw ?_ ?_; · kernel_rfl) | refine jbu rfl rfl rfl rfl ?_)
      refine jnextI (q + 1) hq2 ?_ rfl (by omega)
      show some _ = some _
      rw [hidx]
    · rw [show (((q : Int) == (k : Int))) = false from by rw [beq_eq_false_iff_ne]; omega]
      rw [if_neg e] at htk
      repeat (first | refine js rfl ?_ | (refine jdraw ?_ ?_; · kernel_rfl) | refine jbu rfl rfl rfl rfl ?_)
      refine jo rfl rfl (append_enc (enc := encBuf) (l := (l.set k v).take q) (at' l (q : Int)) rfl rfl rfl rfl rfl rfl rfl rfl rfl rfl (fun x => ⟨rfl, rfl⟩) rfl (by omega) rfl rfl) rfl rfl ?_
      rw [← htk]
      repeat (first | refine js rfl ?_ | (refine jdraw ?_ ?_; · kernel_rfl) | refine jbu rfl rfl rfl rfl ?_)
      refine jnextI (q + 1) hq2 ?_ rfl (by omega)
      show some _ = some _
      rw [hidx]
  · have h := of_decide_eq_false h
    rw [List.length_map] at h
    have : q = l.length := by omega
    subst this
    rw [List.take_of_length_le (by simp)]
    refine jpub 7 rfl rfl rfl rfl ?_
    repeat (first | refine js rfl ?_ | (refine jdraw ?_ ?_; · kernel_rfl) | refine jbu rfl rfl rfl rfl ?_)
    exact jret [] true rfl rfl rfl ⟨rfl, rfl⟩
theorem rwith_thr (l : List (Thr)) (k : Nat) (v : Thr) (hl : l.length ≤ 1000) : ACalls Tryz.prog 150 [.sl (l.map encThr), iv (k : Int), encThr v] [] (one (.sl ((l.set k v).map encThr)) []) := by
  refine jcalls Tryz.func150 rfl (by kernel_rfl) Tryz.ntmps150 rfl rfl (fun w0 β0 ext hβ => ?_)
  repeat (first | refine jad 7 87 13 rfl rfl rfl rfl ?_ | refine js rfl ?_ | (refine jdraw ?_ ?_; · kernel_rfl) | refine jbu rfl rfl rfl rfl ?_)
  refine jloop 2 (fun q : Nat => q ≤ l.length) [1, 5, 7, 11, 12, 13] (fun q => [iv (k : Int), .ptr 0 0, .arr 1 (q + 1), .sl (l.map encThr), .v (.int .i64 ((l.map encThr).length : Int)), .v (.int .i64 (q : Int))])
    (fun q => [.box 87 (thCells v), .arr (q + 1) 87 13 (((l.set k v).take q).map encThr)]) (fun q => l.length - q) 0 (by show β0.length ≤ 2; rw [hβ]; exact Nat.zero_le _) (Nat.zero_le _) rfl rfl (fun q hq => ?_)
  unfold thCells
  repeat (first | refine js rfl ?_ | (refine jdraw ?_ ?_; · kernel_rfl) | refine jbu rfl rfl rfl rfl ?_)
  refine jc rfl rfl rfl (fun h => ?_) (fun h => ?_)
  · have h := of_decide_eq_true h
    rw [List.length_map] at h
    have hq2 : q < l.length := by omega
    have hidx : IntKind.i64.wrap ((q : Int) + 1) = ((q + 1 : Nat) : Int) := idx_next hq2 (by omega)
    have htk := set_take_at l k v hq2
    have hln : ((l.set k v).take q).length ≤ 1000 := by rw [List.length_take]; omega
    repeat (first | refine js rfl ?_ | (refine jdraw ?_ ?_; · kernel_rfl) | refine jbu rfl rfl rfl rfl ?_ | refine jo rfl rfl (index_at rfl rfl rfl rfl rfl rfl rfl rfl (Int.natCast_nonneg q) h) rfl rfl ?_)
    by_cases e : q = k
    · subst e
      rw [show (((q : Int) == (q : Int))) = true from by simp]
      rw [if_pos rfl] at htk
      repeat (first | refine js rfl ?_ | (refine jdraw ?_ ?_; · kernel_rfl) | refine jbu rfl rfl rfl rfl ?_)
      refine jo rfl rfl (append_enc (enc := encThr) (l := (l.set q v).take q) v rfl rfl rfl rfl rfl rfl rfl rfl rfl rfl (fun x => ⟨rfl, rfl⟩) rfl (by omega) rfl rfl) rfl rfl ?_
      rw [← htk]
      repeat (first | refine js rfl ?_ | (refine jdraw ?_ ?_; · kernel_rfl) | refine jbu rfl rfl rfl rfl ?_)
      refine jnext (q + 1) hq2 (by omega) rfl rfl rfl ?_ ?_
      · rw [hidx]; rfl
      · rfl
    · rw [show (((q : Int) == (k : Int))) = false from by rw [beq_eq_false_iff_ne]; omega]
      rw [if_neg e] at htk
      repeat (first | refine js rfl ?_ | (refine jdraw ?_ ?_; · kernel_rfl) | refine jbu rfl rfl rfl rfl ?_)
      refine jo rfl rfl (append_enc (enc := encThr) (l := (l.set k v).take q) (at' l (q : Int)) rfl rfl rfl rfl rfl rfl rfl rfl rfl rfl (fun x => ⟨rfl, rfl⟩) rfl (by omega) rfl rfl) rfl rfl ?_
      rw [← htk]
      repeat (first | refine js rfl ?_ | (refine jdraw ?_ ?_; · kernel_rfl) | refine jbu rfl rfl rfl rfl ?_)
      refine jnext (q + 1) hq2 (by omega) rfl rfl rfl ?_ ?_
      · rw [hidx]; rfl
      · rfl
  · have h := of_decide_eq_false h
    rw [List.length_map] at h
    have : q = l.length := by omega
    subst this
    rw [List.take_of_length_le (by simp)]
    refine jpub 7 rfl rfl rfl rfl ?_
    repeat (first | refine js rfl ?_ | (refine jdraw ?_ ?_; · kernel_rfl) | refine jbu rfl rfl rfl rfl ?_)
    exact jret [] true rfl rfl rfl ⟨rfl, rfl⟩
end Go.AL
end
section
set_option maxRecDepth 100000
namespace Go.AL
open Go Go.Proofs
attribute [local irreducible] J
theorem tag3 {m : Mem} {q : Nat} (hr : mRight m = true) (hq : q < m.words.length) : at' m.tags (q : Int) = 0 ∨ at' m.tags (q : Int) = 1 ∨ at' m.tags (q : Int) = 2 := by
  obtain ⟨r1, r2, r3, r4⟩ := (mRight_iff m).1 hr
  have := tag_bd (r4 q (by omega))
  omega
theorem rload_ok (m : Mem) (k : Int) (hr : mRight m = true) : ACalls Tryz.prog 118 [encMem m, iv k] [] (one (.tup [iv (mLoad m k).1, iv (mLoad m k).2]) []) := by
  obtain ⟨r1, r2, r3, r4⟩ := (mRight_iff m).1 hr
  have h3 := fun q (hq : q < m.words.length) => tag3 hr hq
  obtain ⟨ws, ts⟩ := m
  simp only at r1 r2 r3 r4 h3
  unfold encMem mCells ivs
  by_cases g : 0 ≤ k ∧ k < ws.length
  · obtain ⟨q, rfl⟩ : ∃ q : Nat, k = q := ⟨k.toNat, by omega⟩
    have hi : inn (q : Int) 0 ((ws.length : Int) - 1) = true := inn_iff.2 ⟨by omega, by omega⟩
    have c1 : decide ((q : Int) < 0) = false := decide_eq_false (by omega)
    have c2 : decide ((q : Int) ≥ ((ws.map iv).length : Int)) = false := decide_eq_false (by rw [List.length_map]; omega)
    have hqt : (q : Int) < ts.length := by omega
    have hqw : (q : Int) < ws.length := by omega
    have h3 := h3 q (by omega)
    have e1 : mLoad ⟨ws, ts⟩ (q : Int) = cond (decide (why (at' ts (q : Int)) = 0)) (at' ws (q : Int), 0) (0, why (at' ts (q : Int))) := by
      unfold mLoad mUse
      simp only [hi, cond_true, Int.toNat_natCast]
      rfl
    rw [e1]
    rcases h3 with e | e | e
    · rw [e]
      refine jcalls Tryz.func118 rfl (by kernel_rfl) Tryz.ntmps118 rfl rfl (fun w0 β0 ext hβ => ?_)
      repeat (first | refine js rfl ?_ | (refine jdraw ?_ ?_; · kernel_rfl) | refine jbu rfl rfl rfl rfl ?_)
      rw [c1]
      repeat (first | refine js rfl ?_ | (refine jdraw ?_ ?_; · kernel_rfl) | refine jbu rfl rfl rfl rfl ?_)
      rw [c2]
      repeat (first | refine js rfl ?_ | (refine jdraw ?_ ?_; · kernel_rfl) | refine jbu rfl rfl rfl rfl ?_ | refine jo rfl rfl (index_at rfl rfl rfl rfl rfl rfl rfl rfl (Int.natCast_nonneg q) hqt) rfl rfl ?_)
      rw [e]
      repeat (first | refine js rfl ?_ | (refine jdraw ?_ ?_; · kernel_rfl) | refine jbu rfl rfl rfl rfl ?_)
      exact jr rfl rfl rfl rfl
    · rw [e]
      refine jcalls Tryz.func118 rfl (by kernel_rfl) Tryz.ntmps118 rfl rfl (fun w0 β0 ext hβ => ?_)
      repeat (first | refine js rfl ?_ | (refine jdraw ?_ ?_; · kernel_rfl) | refine jbu rfl rfl rfl rfl ?_)
      rw [c1]
      repeat (first | refine js rfl ?_ | (refine jdraw ?_ ?_; · kernel_rfl) | refine jbu rfl rfl rfl rfl ?_)
      rw [c2]
      repeat (first | refine js rfl ?_ | (refine jdraw ?_ ?_; · kernel_rfl) | refine jbu rfl rfl rfl rfl ?_ | refine jo rfl rfl (index_at rfl rfl rfl rfl rfl rfl rfl rfl (Int.natCast_nonneg q) hqt) rfl rfl ?_)
      rw [e]
      repeat (first | refine js rfl ?_ | (refine jdraw ?_ ?_; · kernel_rfl) | refine jbu rfl rfl rfl rfl ?_ | refine jo rfl rfl (index_at rfl rfl rfl rfl rfl rfl rfl rfl (Int.natCast_nonneg q) hqt) rfl rfl ?_)
      rw [e]
      repeat (first | refine js rfl ?_ | (refine jdraw ?_ ?_; · kernel_rfl) | refine jbu rfl rfl rfl rfl ?_ | refine jo rfl rfl (index_at (l := ws) rfl rfl rfl rfl rfl rfl rfl rfl (Int.natCast_nonneg q) hqw) rfl rfl ?_)
      exact jr rfl rfl rfl rfl
    · rw [e]
      refine jcalls Tryz.func118 rfl (by kernel_rfl) Tryz.ntmps118 rfl rfl (fun w0 β0 ext hβ => ?_)
      repeat (first | refine js rfl ?_ | (refine jdraw ?_ ?_; · kernel_rfl) | refine jbu rfl rfl rfl rfl ?_)
      rw [c1]
      repeat (first | refine js rfl ?_ | (refine jdraw ?_ ?_; · kernel_rfl) | refine jbu rfl rfl rfl rfl ?_)
      rw [c2]
      repeat (first | refine js rfl ?_ | (refine jdraw ?_ ?_; · kernel_rfl) | refine jbu rfl rfl rfl rfl ?_ | refine jo rfl rfl (index_at rfl rfl rfl rfl rfl rfl rfl rfl (Int.natCast_nonneg q) hqt) rfl rfl ?_)
      rw [e]
      repeat (first | refine js rfl ?_ | (refine jdraw ?_ ?_; · kernel_rfl) | refine jbu rfl rfl rfl rfl ?_ | refine jo rfl rfl (index_at rfl rfl rfl rfl rfl rfl rfl rfl (Int.natCast_nonneg q) hqt) rfl rfl ?_)
      rw [e]
      repeat (first | refine js rfl ?_ | (refine jdraw ?_ ?_; · kernel_rfl) | refine jbu rfl rfl rfl rfl ?_)
      exact jr rfl rfl rfl rfl
  · have e : inn k 0 ((ws.length : Int) - 1) = false := by
      cases hi : inn k 0 ((ws.length : Int) - 1) with
      | false => rfl
      | true => have := inn_iff.1 hi; omega
    have e1 : mLoad ⟨ws, ts⟩ k = (0, 3) := by
      unfold mLoad mUse
      simp only [e]
      rfl
    rw [e1]
    by_cases g1 : k < 0
    · refine jcalls Tryz.func118 rfl (by kernel_rfl) Tryz.ntmps118 rfl rfl (fun w0 β0 ext hβ => ?_)
      repeat (first | refine js rfl ?_ | (refine jdraw ?_ ?_; · kernel_rfl) | refine jbu rfl rfl rfl rfl ?_)
      rw [show decide (k < 0) = true from decide_eq_true g1]
      repeat (first | refine js rfl ?_ | (refine jdraw ?_ ?_; · kernel_rfl) | refine jbu rfl rfl rfl rfl ?_)
      exact jr rfl rfl rfl rfl
    · refine jcalls Tryz.func118 rfl (by kernel_rfl) Tryz.ntmps118 rfl rfl (fun w0 β0 ext hβ => ?_)
      repeat (first | refine js rfl ?_ | (refine jdraw ?_ ?_; · kernel_rfl) | refine jbu rfl rfl rfl rfl ?_)
      rw [show decide (k < 0) = false from decide_eq_false g1]
      repeat (first | refine js rfl ?_ | (refine jdraw ?_ ?_; · kernel_rfl) | refine jbu rfl rfl rfl rfl ?_)
      rw [show decide (k ≥ (((ws.map iv).length : Nat) : Int)) = true from decide_eq_true (by rw [List.length_map]; omega)]
      repeat (first | refine js rfl ?_ | (refine jdraw ?_ ?_; · kernel_rfl) | refine jbu rfl rfl rfl rfl ?_)
      exact jr rfl rfl rfl rfl
theorem rstore_ok (m : Mem) (k v : Int) (hr : mRight m = true) : ACalls Tryz.prog 128 [encMem m, iv k, iv v] [] (one (.tup [encMem (mStore m k v).1, iv (mStore m k v).2]) []) := by
  obtain ⟨r1, r2, r3, r4⟩ := (mRight_iff m).1 hr
  have h1 := rload_ok m k hr
  rw [mLoad_two] at h1
  by_cases e : mUse m k = 0
  · obtain ⟨g1, g2⟩ := mUse_ok e
    obtain ⟨q, rfl⟩ : ∃ q : Nat, k = q := ⟨k.toNat, by omega⟩
    have h2 := rwith_int m.words q v (by omega)
    rw [show (mStore m (q : Int) v) = (⟨m.words.set q v, m.tags⟩, 0) by unfold mStore; rw [decide_eq_true e]; rfl]
    rw [e] at h1
    unfold encMem mCells ivs at *
    refine jcalls Tryz.func128 rfl (by kernel_rfl) Tryz.ntmps128 rfl rfl (fun w0 β0 ext hβ => ?_)
    repeat (first | refine js rfl ?_ | (refine jdraw ?_ ?_; · kernel_rfl) | refine jbu rfl rfl rfl rfl ?_ | refine jv h1 rfl rfl rfl rfl rfl ?_ | refine jv h2 rfl rfl rfl rfl rfl ?_)
    exact jr rfl rfl rfl rfl
  · rw [show (mStore m k v) = (mem0, mUse m k) by unfold mStore; rw [decide_eq_false e]; rfl]
    have hd : (mUse m k != 0) = true := by rw [bne_iff_ne]; exact e
    unfold encMem mCells ivs at *
    refine jcalls Tryz.func128 rfl (by kernel_rfl) Tryz.ntmps128 rfl rfl (fun w0 β0 ext hβ => ?_)
    repeat (first | refine js rfl ?_ | (refine jdraw ?_ ?_; · kernel_rfl) | refine jbu rfl rfl rfl rfl ?_ | refine jv h1 rfl rfl rfl rfl rfl ?_)
    rw [hd]
    repeat (first | refine js rfl ?_ | (refine jdraw ?_ ?_; · kernel_rfl) | refine jbu rfl rfl rfl rfl ?_)
    exact jr rfl rfl rfl rfl
end Go.AL
end
section
set_option maxRecDepth 100000
namespace Go.AL
open Go Go.Proofs
attribute [local irreducible] J
theorem rmark_ok (m : Mem) (k n tag : Int) (hr : mRight m = true) (ht : tag = 1 ∨ tag = 2) : ACalls Tryz.prog 157 [encMem m, iv k, iv n, iv tag] [] (one (.tup [encMem (mMark m k n tag).1, iv (mMark m k n tag).2]) []) := by
  obtain ⟨r1, r2, r3, r4⟩ := (mRight_iff m).1 hr
  have h3 := fun q (hq : q < m.words.length) => tag3 hr hq
  obtain ⟨ws, ts⟩ := m
  simp only at r1 r2 r3 r4 h3
  unfold mMark
  simp only
  unfold encMem mCells ivs at *
  simp only
  by_cases g : 1 ≤ n ∧ 0 ≤ k ∧ k < ws.length ∧ n ≤ ws.length - k
  · obtain ⟨q, rfl⟩ : ∃ q : Nat, k = q := ⟨k.toNat, by omega⟩
    obtain ⟨n, rfl⟩ : ∃ p : Nat, n = p := ⟨n.toNat, by omega⟩
    have e0 : (decide (1 ≤ (n : Int)) && (inn (q : Int) 0 (ws.length - 1) && decide ((n : Int) ≤ ws.length - (q : Int)))) = true := by
      unfold inn; simp only [Bool.and_eq_true, decide_eq_true_eq]; omega
    rw [e0]
    simp only [cond_true, Int.toNat_natCast]
    have c1 : decide ((n : Int) < 1) = false := decide_eq_false (by omega)
    have c2 : decide ((q : Int) < 0) = false := decide_eq_false (by omega)
    have c3 : decide ((q : Int) ≥ ((ws.map iv).length : Int)) = false := decide_eq_false (by rw [List.length_map]; omega)
    have c4 : decide ((n : Int) > IntKind.i64.wrap (((ws.map iv).length : Int) - q)) = false := decide_eq_false (by rw [List.length_map, wrap_id] <;> omega)
    have hle : q + n ≤ ts.length := by omega
    have htl : ts.length ≤ 160 := by omega
    have mk0 : ∀ t, mkTags ts q 0 t = ts := fun t => by simp [mkTags]
    have hwe : IntKind.i64.wrap ((q : Int) + n) = ((q + n : Nat) : Int) := by rw [wrap_id] <;> omega
    rcases ht with rfl | rfl
    all_goals (
      refine jcalls Tryz.func157 rfl (by kernel_rfl) Tryz.ntmps157 rfl rfl (fun w0 β0 ext hβ => ?_)
      repeat (first | refine js rfl ?_ | (refine jdraw ?_ ?_; · kernel_rfl) | refine jbu rfl rfl rfl rfl ?_)
      rw [c1]
      repeat (first | refine js rfl ?_ | (refine jdraw ?_ ?_; · kernel_rfl) | refine jbu rfl rfl rfl rfl ?_)
      rw [c2]
      repeat (first | refine js rfl ?_ | (refine jdraw ?_ ?_; · kernel_rfl) | refine jbu rfl rfl rfl rfl ?_)
      rw [c3]
      repeat (first | refine js rfl ?_ | (refine jdraw ?_ ?_; · kernel_rfl) | refine jbu rfl rfl rfl rfl ?_)
      rw [c4]
      repeat (first | refine js rfl ?_ | (refine jdraw ?_ ?_; · kernel_rfl) | refine jbu rfl rfl rfl rfl ?_)
    )
    · refine jloopI (fun i : Nat => i ≤ n ∧ mkBad ts q 1 i = 0) [1, 2, 3, 4, 8, 9, 10, 11] (fun i => [iv (q : Int), iv (n : Int), iv 1, .ptr 0 0, .ptr 1 0, iv 0, .sl ((mkTags ts q i 1).map iv), iv ((q + i : Nat) : Int)])
        (fun i => [.box 25 [.sl (ws.map iv), .sl (ts.map iv)], .box 25 [.slf [], .slf []]]) (fun i => n - i) 0 ⟨Nat.zero_le _, rfl⟩ (by rw [mk0]; rfl) rfl (fun i hi => ?_)
      obtain ⟨hi, hz⟩ := hi
      repeat (first | refine js rfl ?_ | (refine jdraw ?_ ?_; · kernel_rfl) | refine jbu rfl rfl rfl rfl ?_)
      rw [hwe]
      by_cases hlt : i < n
      · rw [show decide (((q + i : Nat) : Int) < ((q + n : Nat) : Int)) = true from decide_eq_true (by omega)]
        have hqt : ((q + i : Nat) : Int) < ts.length := by omega
        have hln := mkTags_len (tags := ts) (k := q) (n := i) (tag := 1) (by omega)
        have hsu := mkTags_succ (tags := ts) (k := q) (n := i) (tag := 1) (by omega)
        have hw := rwith_int (mkTags ts q i 1) (q + i) 1 (by omega)
        rw [hsu] at hw
        have hst := fun h => mkBad_stop (tags := ts) (k := q) (tag := 1) hz h (n - (i + 1))
        rw [show i + 1 + (n - (i + 1)) = n by omega, show g0 ts (q + i) = at' ts ((q + i : Nat) : Int) from rfl] at hst
        have hgo := fun h => mkBad_go (tags := ts) (k := q) (tag := 1) hz h
        rw [show g0 ts (q + i) = at' ts ((q + i : Nat) : Int) from rfl] at hgo
        have hidx : IntKind.i64.wrap (((q + i : Nat) : Int) + 1) = ((q + (i + 1) : Nat) : Int) := by rw [wrap_id] <;> omega
        by_cases e : at' ts ((q + i : Nat) : Int) = 1
        · have hB := hst (by rw [e]; decide)
          rw [e] at hB
          have hB0 : decide (mkBad ts q 1 n = 0) = false := decide_eq_false (by rw [hB]; decide)
          rw [hB0]
          simp only [cond_false]
          rw [hB]
          repeat (first | refine js rfl ?_ | (refine jdraw ?_ ?_; · kernel_rfl) | refine jbu rfl rfl rfl rfl ?_ | refine jo rfl rfl (index_at rfl rfl rfl rfl rfl rfl rfl rfl (Int.natCast_nonneg (q + i)) hqt) rfl rfl ?_)
          rw [e]
          repeat (first | refine js rfl ?_ | (refine jdraw ?_ ?_; · kernel_rfl) | refine jbu rfl rfl rfl rfl ?_)
          exact jr rfl rfl rfl rfl
        · have hd : ((at' ts ((q + i : Nat) : Int)) == 1) = false := by rw [beq_eq_false_iff_ne]; exact e
          repeat (first | refine js rfl ?_ | (refine jdraw ?_ ?_; · kernel_rfl) | refine jbu rfl rfl rfl rfl ?_ | refine jo rfl rfl (index_at rfl rfl rfl rfl rfl rfl rfl rfl (Int.natCast_nonneg (q + i)) hqt) rfl rfl ?_)
          rw [hd]
          repeat (first | refine js rfl ?_ | (refine jdraw ?_ ?_; · kernel_rfl) | refine jbu rfl rfl rfl rfl ?_ | refine jv hw rfl rfl rfl rfl rfl ?_)
          rw [hidx]
          refine jnextI (i + 1) ⟨by omega, hgo (by unfold mkE; rw [decide_eq_false e]; rfl)⟩ rfl rfl (by omega)
      · have : i = n := by omega
        subst this
        rw [show decide (((q + i : Nat) : Int) < ((q + i : Nat) : Int)) = false from decide_eq_false (by omega)]
        rw [show decide (mkBad ts q 1 i = 0) = true from decide_eq_true hz]
        simp only [cond_true]
        repeat (first | refine js rfl ?_ | (refine jdraw ?_ ?_; · kernel_rfl) | refine jbu rfl rfl rfl rfl ?_)
        exact jr rfl rfl rfl rfl
    · refine jloopI (fun i : Nat => i ≤ n ∧ mkBad ts q 2 i = 0) [1, 2, 3, 4, 8, 9, 10, 11] (fun i => [iv (q : Int), iv (n : Int), iv 2, .ptr 0 0, .ptr 1 0, iv 0, .sl ((mkTags ts q i 2).map iv), iv ((q + i : Nat) : Int)])
        (fun i => [.box 25 [.sl (ws.map iv), .sl (ts.map iv)], .box 25 [.slf [], .slf []]]) (fun i => n - i) 0 ⟨Nat.zero_le _, rfl⟩ (by rw [mk0]; rfl) rfl (fun i hi => ?_)
      obtain ⟨hi, hz⟩ := hi
      repeat (first | refine js rfl ?_ | (refine jdraw ?_ ?_; · kernel_rfl) | refine jbu rfl rfl rfl rfl ?_)
      rw [hwe]
      by_cases hlt : i < n
      · rw [show decide (((q + i : Nat) : Int) < ((q + n : Nat) : Int)) = true from decide_eq_true (by omega)]
        have hqt : ((q + i : Nat) : Int) < ts.length := by omega
        have hln := mkTags_len (tags := ts) (k := q) (n := i) (tag := 2) (by omega)
        have hsu := mkTags_succ (tags := ts) (k := q) (n := i) (tag := 2) (by omega)
        have hw := rwith_int (mkTags ts q i 2) (q + i) 2 (by omega)
        rw [hsu] at hw
        have hst := fun h => mkBad_stop (tags := ts) (k := q) (tag := 2) hz h (n - (i + 1))
        rw [show i + 1 + (n - (i + 1)) = n by omega, show g0 ts (q + i) = at' ts ((q + i : Nat) : Int) from rfl] at hst
        have hgo := fun h => mkBad_go (tags := ts) (k := q) (tag := 2) hz h
        rw [show g0 ts (q + i) = at' ts ((q + i : Nat) : Int) from rfl] at hgo
        have hidx : IntKind.i64.wrap (((q + i : Nat) : Int) + 1) = ((q + (i + 1) : Nat) : Int) := by rw [wrap_id] <;> omega
        rcases h3 (q + i) (by omega) with e | e | e
        · have hB := hst (by rw [e]; decide)
          rw [e] at hB
          have hB0 : decide (mkBad ts q 2 n = 0) = false := decide_eq_false (by rw [hB]; decide)
          rw [hB0]
          simp only [cond_false]
          rw [hB]
          repeat (first | refine js rfl ?_ | (refine jdraw ?_ ?_; · kernel_rfl) | refine jbu rfl rfl rfl rfl ?_ | refine jo rfl rfl (index_at rfl rfl rfl rfl rfl rfl rfl rfl (Int.natCast_nonneg (q + i)) hqt) rfl rfl ?_)
          rw [e]
          repeat (first | refine js rfl ?_ | (refine jdraw ?_ ?_; · kernel_rfl) | refine jbu rfl rfl rfl rfl ?_)
          exact jr rfl rfl rfl rfl
        · repeat (first | refine js rfl ?_ | (refine jdraw ?_ ?_; · kernel_rfl) | refine jbu rfl rfl rfl rfl ?_ | refine jo rfl rfl (index_at rfl rfl rfl rfl rfl rfl rfl rfl (Int.natCast_nonneg (q + i)) hqt) rfl rfl ?_)
          rw [e]
          repeat (first | refine js rfl ?_ | (refine jdraw ?_ ?_; · kernel_rfl) | refine jbu rfl rfl rfl rfl ?_ | refine jo rfl rfl (index_at rfl rfl rfl rfl rfl rfl rfl rfl (Int.natCast_nonneg (q + i)) hqt) rfl rfl ?_)
          rw [e]
          repeat (first | refine js rfl ?_ | (refine jdraw ?_ ?_; · kernel_rfl) | refine jbu rfl rfl rfl rfl ?_ | refine jv hw rfl rfl rfl rfl rfl ?_)
          rw [hidx]
          refine jnextI (i + 1) ⟨by omega, hgo (by rw [e]; rfl)⟩ rfl rfl (by omega)
        · have hB := hst (by rw [e]; decide)
          rw [e] at hB
          have hB0 : decide (mkBad ts q 2 n = 0) = false := decide_eq_false (by rw [hB]; decide)
          rw [hB0]
          simp only [cond_false]
          rw [hB]
          repeat (first | refine js rfl ?_ | (refine jdraw ?_ ?_; · kernel_rfl) | refine jbu rfl rfl rfl rfl ?_ | refine jo rfl rfl (index_at rfl rfl rfl rfl rfl rfl rfl rfl (Int.natCast_nonneg (q + i)) hqt) rfl rfl ?_)
          rw [e]
          repeat (first | refine js rfl ?_ | (refine jdraw ?_ ?_; · kernel_rfl) | refine jbu rfl rfl rfl rfl ?_ | refine jo rfl rfl (index_at rfl rfl rfl rfl rfl rfl rfl rfl (Int.natCast_nonneg (q + i)) hqt) rfl rfl ?_)
          rw [e]
          repeat (first | refine js rfl ?_ | (refine jdraw ?_ ?_; · kernel_rfl) | refine jbu rfl rfl rfl rfl ?_)
          exact jr rfl rfl rfl rfl
      · have : i = n := by omega
        subst this
        rw [show decide (((q + i : Nat) : Int) < ((q + i : Nat) : Int)) = false from decide_eq_false (by omega)]
        rw [show decide (mkBad ts q 2 i = 0) = true from decide_eq_true hz]
        simp only [cond_true]
        repeat (first | refine js rfl ?_ | (refine jdraw ?_ ?_; · kernel_rfl) | refine jbu rfl rfl rfl rfl ?_)
        exact jr rfl rfl rfl rfl
  · have e0 : (decide (1 ≤ n) && (inn k 0 (ws.length - 1) && decide (n ≤ ws.length - k))) = false := by
      rw [Bool.eq_false_iff]; intro h; apply g
      unfold inn at h; simp only [Bool.and_eq_true, decide_eq_true_eq] at h; omega
    rw [e0]
    have hml : ((ws.map iv).length : Int) = ws.length := by rw [List.length_map]
    have hwr : 0 ≤ k → k < ws.length → IntKind.i64.wrap (((ws.map iv).length : Int) - k) = ws.length - k := fun a b => by rw [hml, wrap_id] <;> omega
    refine jcalls Tryz.func157 rfl (by kernel_rfl) Tryz.ntmps157 rfl rfl (fun w0 β0 ext hβ => ?_)
    repeat' (first | refine js rfl ?_ | (refine jdraw ?_ ?_; · kernel_rfl) | refine jbu rfl rfl rfl rfl ?_ | refine jo rfl rfl (index_at rfl rfl rfl rfl rfl rfl rfl rfl (by omega) (by omega)) rfl rfl ?_ | (refine jc rfl rfl rfl (fun h => ?_) (fun h => ?_) <;> (try simp only [decide_eq_true_eq, decide_eq_false_iff_not, beq_iff_eq, beq_eq_false_iff_ne, bne_iff_ne, bne_eq_false_iff_eq, ne_eq] at h) <;> (try (exfalso; omega))) | (refine jg rfl rfl rfl rfl (fun h => ?_) (fun h => ?_) <;> (fail_if_success (exact absurd h (by decide))) <;> (try simp only [decide_eq_true_eq, decide_eq_false_iff_not, beq_iff_eq, beq_eq_false_iff_ne, bne_iff_ne, bne_eq_false_iff_eq, ne_eq] at h) <;> (try (exfalso; omega))))
    all_goals exact jr rfl rfl rfl rfl
end Go.AL
end
section
set_option maxRecDepth 100000
namespace Go.AL
open Go Go.Proofs
attribute [local irreducible] J
theorem newest_take (b : List Wput) (a : Int) {q : Nat} (h : q < b.length) : newest (b.take (q + 1)) a = if (at' b (q : Int)).loc = a then some (at' b (q : Int)).val else newest (b.take q) a := by
  unfold newest
  rw [at_nat b q h, List.take_add_one, List.getElem?_eq_getElem h]
  simp only [Option.toList_some, List.reverse_append, List.reverse_cons, List.reverse_nil, List.nil_append, List.cons_append, List.find?_cons]
  by_cases e : b[q].loc = a
  · rw [decide_eq_true e, if_pos e]; rfl
  · rw [decide_eq_false e, if_neg e]
theorem rnewest_ok (b : List Wput) (a : Int) (hb : b.length ≤ 1000000) : ACalls Tryz.prog 182 [.sl (b.map encPut), iv a] [] (one (.tup [iv ((newest b a).getD 0), bv (newest b a).isSome]) []) := by
  refine jcalls Tryz.func182 rfl (by kernel_rfl) Tryz.ntmps182 rfl rfl (fun w0 β0 ext hβ => ?_)
  repeat (first | refine js rfl ?_ | (refine jdraw ?_ ?_; · kernel_rfl) | refine jbu rfl rfl rfl rfl ?_)
  refine jloop 0 (fun q : Nat => q ≤ b.length) [1, 6, 7, 10, 11, 12] (fun q => [iv a, iv ((newest (b.take q) a).getD 0), bv (newest (b.take q) a).isSome, .sl (b.map encPut), .v (.int .i64 ((b.map encPut).length : Int)), .v (.int .i64 (q : Int))])
    (fun q => []) (fun q => b.length - q) 0 (by show β0.length ≤ 0; rw [hβ]; exact Nat.le_refl _) (Nat.zero_le _) rfl rfl (fun q hq => ?_)
  repeat (first | refine js rfl ?_ | (refine jdraw ?_ ?_; · kernel_rfl) | refine jbu rfl rfl rfl rfl ?_)
  refine jc rfl rfl rfl (fun h => ?_) (fun h => ?_)
  · have h := of_decide_eq_true h
    rw [List.length_map] at h
    have hq2 : q < b.length := by omega
    have hidx : IntKind.i64.wrap ((q : Int) + 1) = ((q + 1 : Nat) : Int) := idx_next hq2 (by omega)
    have hnw := newest_take b a hq2
    have hx : encPut (at' b (q : Int)) = .agg [iv (at' b (q : Int)).loc, iv (at' b (q : Int)).val] := rfl
    repeat (first | refine js rfl ?_ | (refine jdraw ?_ ?_; · kernel_rfl) | refine jbu rfl rfl rfl rfl ?_ | refine jo rfl rfl (index_at rfl rfl rfl rfl rfl rfl rfl rfl (Int.natCast_nonneg q) h) rfl rfl ?_)
    by_cases e : (at' b (q : Int)).loc = a
    · rw [if_pos e] at hnw
      rw [show (((at' b (q : Int)).loc == a)) = true from by simpa using e]
      repeat (first | refine js rfl ?_ | (refine jdraw ?_ ?_; · kernel_rfl) | refine jbu rfl rfl rfl rfl ?_)
      refine jnext (q + 1) hq2 (by omega) rfl rfl rfl ?_ rfl
      rw [hidx, hnw]; rfl
    · rw [if_neg e] at hnw
      rw [show (((at' b (q : Int)).loc == a)) = false from by rw [beq_eq_false_iff_ne]; exact e]
      repeat (first | refine js rfl ?_ | (refine jdraw ?_ ?_; · kernel_rfl) | refine jbu rfl rfl rfl rfl ?_)
      refine jnext (q + 1) hq2 (by omega) rfl rfl rfl ?_ rfl
      rw [hidx, hnw]; rfl
  · have h := of_decide_eq_false h
    rw [List.length_map] at h
    have : q = b.length := by omega
    subst this
    rw [List.take_length]
    repeat (first | refine js rfl ?_ | (refine jdraw ?_ ?_; · kernel_rfl) | refine jbu rfl rfl rfl rfl ?_)
    exact jr rfl rfl rfl rfl
theorem rpush_ok (b : List Wput) (p : Wput) (hb : b.length ≤ 1000) : ACalls Tryz.prog 183 [.sl (b.map encPut), encPut p] [] (one (.sl ((b ++ [p]).map encPut)) []) := by
  rw [show encPut p = .agg [iv p.loc, iv p.val] from rfl]
  refine jcalls Tryz.func183 rfl (by kernel_rfl) Tryz.ntmps183 rfl rfl (fun w0 β0 ext hβ => ?_)
  repeat (first | refine jad 5 182 2 rfl rfl rfl rfl ?_ | refine js rfl ?_ | (refine jdraw ?_ ?_; · kernel_rfl) | refine jbu rfl rfl rfl rfl ?_)
  refine jo rfl rfl (append_encs (enc := encPut) (l := []) (l2 := b) rfl rfl rfl rfl rfl rfl rfl rfl rfl (fun x => ⟨rfl, rfl⟩) rfl (by simp; omega) rfl rfl) rfl rfl ?_
  repeat (first | refine js rfl ?_ | (refine jdraw ?_ ?_; · kernel_rfl) | refine jbu rfl rfl rfl rfl ?_)
  refine jo rfl rfl (append_enc (enc := encPut) (l := b) p rfl rfl rfl rfl rfl rfl rfl rfl rfl rfl (fun x => ⟨rfl, rfl⟩) rfl (by omega) rfl rfl) rfl rfl ?_
  repeat (first | refine js rfl ?_ | (refine jdraw ?_ ?_; · kernel_rfl) | refine jbu rfl rfl rfl rfl ?_)
  exact jret [] true rfl rfl rfl ⟨rfl, rfl⟩
theorem rest_take (b : List Wput) {q : Nat} (h : q < b.length) : (b.take (q + 1)).tail = if 0 < q then (b.take q).tail ++ [at' b (q : Int)] else (b.take q).tail := by
  rw [at_nat b q h, List.take_add_one, List.getElem?_eq_getElem h]
  cases b with
  | nil => simp at h
  | cons x r =>
    cases q with
    | zero => simp
    | succ q => simp
theorem rrest_ok (b : List Wput) (hb : b.length ≤ 1000) : ACalls Tryz.prog 159 [.sl (b.map encPut)] [] (one (.sl (b.tail.map encPut)) []) := by
  refine jcalls Tryz.func159 rfl (by kernel_rfl) Tryz.ntmps159 rfl rfl (fun w0 β0 ext hβ => ?_)
  repeat (first | refine jad 3 182 2 rfl rfl rfl rfl ?_ | refine js rfl ?_ | (refine jdraw ?_ ?_; · kernel_rfl) | refine jbu rfl rfl rfl rfl ?_)
  refine jloop (ι := Nat × Nat) 1 (fun z => z.1 ≤ b.length) [3, 7, 8, 9] (fun z => [.arr 0 z.2, .sl (b.map encPut), .v (.int .i64 ((b.map encPut).length : Int)), .v (.int .i64 (z.1 : Int))])
    (fun z => [.arr z.2 182 2 (((b.take z.1).tail).map encPut)]) (fun z => b.length - z.1) (0, 1) (by show β0.length ≤ 1; rw [hβ]; exact Nat.zero_le _) (Nat.zero_le _) rfl rfl (fun z hz => ?_)
  obtain ⟨q, gn⟩ := z
  simp only at hz ⊢
  repeat (first | refine js rfl ?_ | (refine jdraw ?_ ?_; · kernel_rfl) | refine jbu rfl rfl rfl rfl ?_)
  refine jc rfl rfl rfl (fun h => ?_) (fun h => ?_)
  · have h := of_decide_eq_true h
    rw [List.length_map] at h
    have hq2 : q < b.length := by omega
    have hidx : IntKind.i64.wrap ((q : Int) + 1) = ((q + 1 : Nat) : Int) := idx_next hq2 (by omega)
    have htk := rest_take b hq2
    have hln : ((b.take q).tail).length ≤ 1000 := by rw [List.length_tail, List.length_take]; omega
    repeat (first | refine js rfl ?_ | (refine jdraw ?_ ?_; · kernel_rfl) | refine jbu rfl rfl rfl rfl ?_ | refine jo rfl rfl (index_at rfl rfl rfl rfl rfl rfl rfl rfl (Int.natCast_nonneg q) h) rfl rfl ?_)
    by_cases e : 0 < q
    · rw [if_pos e] at htk
      rw [show decide ((q : Int) > 0) = true from decide_eq_true (by omega)]
      repeat (first | refine js rfl ?_ | (refine jdraw ?_ ?_; · kernel_rfl) | refine jbu rfl rfl rfl rfl ?_)
      refine jo rfl rfl (append_enc (enc := encPut) (l := (b.take q).tail) (at' b (q : Int)) rfl rfl rfl rfl rfl rfl rfl rfl rfl rfl (fun x => ⟨rfl, rfl⟩) rfl (by omega) rfl rfl) rfl rfl ?_
      rw [← htk]
      repeat (first | refine js rfl ?_ | (refine jdraw ?_ ?_; · kernel_rfl) | refine jbu rfl rfl rfl rfl ?_)
      refine jnext (q + 1, gn + 1) hq2 (by simp only; omega) rfl rfl rfl ?_ rfl
      rw [hidx]
    · rw [if_neg e] at htk
      rw [show decide ((q : Int) > 0) = false from decide_eq_false (by omega)]
      repeat (first | refine js rfl ?_ | (refine jdraw ?_ ?_; · kernel_rfl) | refine jbu rfl rfl rfl rfl ?_)
      refine jnext (q + 1, gn) hq2 (by simp only; omega) rfl rfl rfl ?_ ?_
      · rw [hidx]
      · simp only; rw [htk]
  · have h := of_decide_eq_false h
    rw [List.length_map] at h
    have : q = b.length := by omega
    subst this
    rw [List.take_length]
    refine jpub 3 rfl rfl rfl rfl ?_
    repeat (first | refine js rfl ?_ | (refine jdraw ?_ ?_; · kernel_rfl) | refine jbu rfl rfl rfl rfl ?_)
    exact jret [] true rfl rfl rfl ⟨rfl, rfl⟩
theorem rtload_ok (t : Tso) (k : Nat) (a : Int) (h : TsR t) (hk : k < t.bufs.length) : ACalls Tryz.prog 154 [encTso t, iv (k : Int), iv a] [] (one (.tup [iv (tsLoad t k a).1, iv (tsLoad t k a).2]) []) := by
  have h2 := rload_ok t.mem a h.mem
  have h3 := rnewest_ok (bufAt t k) a (by rw [bufAt_at]; exact h.size.puts _ (at_mem hk))
  unfold tsLoad
  rw [bufAt_at] at *
  have hk1 : (k : Int) < t.bufs.length := by omega
  unfold encTso tCells ivs
  unfold encMem mCells ivs at h2
  generalize mLoad t.mem a = ld at *
  obtain ⟨v, e⟩ := ld
  simp only at *
  generalize hbb : at' t.bufs (k : Int) = bb at *
  by_cases he : e = 0
  · subst he
    refine jcalls Tryz.func154 rfl (by kernel_rfl) Tryz.ntmps154 rfl rfl (fun w0 β0 ext hβ => ?_)
    repeat (first | refine js rfl ?_ | (refine jdraw ?_ ?_; · kernel_rfl) | refine jbu rfl rfl rfl rfl ?_ | refine jv h2 rfl rfl rfl rfl rfl ?_ | refine jo rfl rfl (index_at rfl rfl rfl rfl rfl rfl rfl rfl (Int.natCast_nonneg k) hk1) rfl rfl ?_)
    rw [hbb]
    repeat (first | refine js rfl ?_ | (refine jdraw ?_ ?_; · kernel_rfl) | refine jbu rfl rfl rfl rfl ?_ | refine jv h3 rfl rfl rfl rfl rfl ?_)
    cases newest bb a
    all_goals (
      repeat (first | refine js rfl ?_ | (refine jdraw ?_ ?_; · kernel_rfl) | refine jbu rfl rfl rfl rfl ?_)
    )
    all_goals exact jr rfl rfl rfl rfl
  · have hd : (e != 0) = true := by rw [bne_iff_ne]; exact he
    rw [decide_eq_false he]
    refine jcalls Tryz.func154 rfl (by kernel_rfl) Tryz.ntmps154 rfl rfl (fun w0 β0 ext hβ => ?_)
    repeat (first | refine js rfl ?_ | (refine jdraw ?_ ?_; · kernel_rfl) | refine jbu rfl rfl rfl rfl ?_ | refine jv h2 rfl rfl rfl rfl rfl ?_)
    rw [hd]
    repeat (first | refine js rfl ?_ | (refine jdraw ?_ ?_; · kernel_rfl) | refine jbu rfl rfl rfl rfl ?_)
    exact jr rfl rfl rfl rfl
theorem rtstore_ok (t : Tso) (k : Nat) (a v : Int) (h : TsR t) (hk : k < t.bufs.length) : ACalls Tryz.prog 155 [encTso t, iv (k : Int), iv a, iv v] [] (one (.tup [encTso (tsStore t k a v).1, iv (tsStore t k a v).2]) []) := by
  have h2 := rstore_ok t.mem a v h.mem
  have hbl := h.size.puts _ (at_mem hk)
  have hb8 := (h.put _ (at_mem hk)).1
  have hsz := h.sz
  have h3 := rpush_ok (bufAt t k) ⟨a, v⟩ (by rw [bufAt_at]; omega)
  have h4 := fun b => rwith_buf t.bufs k b (by omega)
  unfold tsStore
  rw [bufAt_at] at *
  have hk1 : (k : Int) < t.bufs.length := by omega
  unfold encTso tCells ivs
  unfold encMem mCells ivs at h2
  generalize mStore t.mem a v = ld at *
  obtain ⟨⟨ws, ts⟩, e⟩ := ld
  simp only at *
  generalize hbb : at' t.bufs (k : Int) = bb at *
  have h4 := h4 (bb ++ [⟨a, v⟩])
  unfold encBuf at h4
  rw [show encPut ⟨a, v⟩ = .agg [iv a, iv v] from rfl] at h3
  by_cases he : e = 0
  · subst he
    have hd2 : (t.depth == 0) = decide (t.depth = 0) := rfl
    cases hz : decide (t.depth = 0) with
    | true =>
      rw [hz] at hd2
      have hz0 := of_decide_eq_true hz
      refine jcalls Tryz.func155 rfl (by kernel_rfl) Tryz.ntmps155 rfl rfl (fun w0 β0 ext hβ => ?_)
      repeat (first | refine js rfl ?_ | (refine jdraw ?_ ?_; · kernel_rfl) | refine jbu rfl rfl rfl rfl ?_ | refine jv h2 rfl rfl rfl rfl rfl ?_)
      rw [hd2]
      repeat (first | refine js rfl ?_ | (refine jdraw ?_ ?_; · kernel_rfl) | refine jbu rfl rfl rfl rfl ?_)
      simp only [decide_true, cond_true]
      rw [hz0]
      exact jr rfl rfl rfl rfl
    | false =>
      rw [hz] at hd2
      have hf2 : ((((bb.map encPut).length : Nat) : Int) == t.depth) = decide ((bb.length : Int) = t.depth) := by rw [List.length_map]; rfl
      cases hf : decide ((bb.length : Int) = t.depth) with
      | true =>
        rw [hf] at hf2
        refine jcalls Tryz.func155 rfl (by kernel_rfl) Tryz.ntmps155 rfl rfl (fun w0 β0 ext hβ => ?_)
        repeat (first | refine js rfl ?_ | (refine jdraw ?_ ?_; · kernel_rfl) | refine jbu rfl rfl rfl rfl ?_ | refine jv h2 rfl rfl rfl rfl rfl ?_)
        rw [hd2]
        repeat (first | refine js rfl ?_ | (refine jdraw ?_ ?_; · kernel_rfl) | refine jbu rfl rfl rfl rfl ?_ | refine jo rfl rfl (index_at rfl rfl rfl rfl rfl rfl rfl rfl (Int.natCast_nonneg k) hk1) rfl rfl ?_)
        rw [hbb]
        repeat (first | refine js rfl ?_ | (refine jdraw ?_ ?_; · kernel_rfl) | refine jbu rfl rfl rfl rfl ?_)
        rw [hf2]
        repeat (first | refine js rfl ?_ | (refine jdraw ?_ ?_; · kernel_rfl) | refine jbu rfl rfl rfl rfl ?_)
        exact jr rfl rfl rfl rfl
      | false =>
        rw [hf] at hf2
        refine jcalls Tryz.func155 rfl (by kernel_rfl) Tryz.ntmps155 rfl rfl (fun w0 β0 ext hβ => ?_)
        repeat (first | refine js rfl ?_ | (refine jdraw ?_ ?_; · kernel_rfl) | refine jbu rfl rfl rfl rfl ?_ | refine jv h2 rfl rfl rfl rfl rfl ?_)
        rw [hd2]
        repeat (first | refine js rfl ?_ | (refine jdraw ?_ ?_; · kernel_rfl) | refine jbu rfl rfl rfl rfl ?_ | refine jo rfl rfl (index_at rfl rfl rfl rfl rfl rfl rfl rfl (Int.natCast_nonneg k) hk1) rfl rfl ?_)
        rw [hbb]
        repeat (first | refine js rfl ?_ | (refine jdraw ?_ ?_; · kernel_rfl) | refine jbu rfl rfl rfl rfl ?_)
        rw [hf2]
        repeat (first | refine js rfl ?_ | (refine jdraw ?_ ?_; · kernel_rfl) | refine jbu rfl rfl rfl rfl ?_ | refine jv h3 rfl rfl rfl rfl rfl ?_ | refine jv h4 rfl rfl rfl rfl rfl ?_)
        exact jr rfl rfl rfl rfl
  · have hd : (e != 0) = true := by rw [bne_iff_ne]; exact he
    rw [decide_eq_false he]
    refine jcalls Tryz.func155 rfl (by kernel_rfl) Tryz.ntmps155 rfl rfl (fun w0 β0 ext hβ => ?_)
    repeat (first | refine js rfl ?_ | (refine jdraw ?_ ?_; · kernel_rfl) | refine jbu rfl rfl rfl rfl ?_ | refine jv h2 rfl rfl rfl rfl rfl ?_)
    rw [hd]
    repeat (first | refine js rfl ?_ | (refine jdraw ?_ ?_; · kernel_rfl) | refine jbu rfl rfl rfl rfl ?_)
    exact jr rfl rfl rfl rfl
theorem rdrop_ok (t : Tso) (k : Nat) (h : TsR t) (hk : k < t.bufs.length) : ACalls Tryz.prog 127 [encTso t, iv (k : Int)] [] (one (encTso { t with bufs := t.bufs.set k (bufAt t k).tail }) []) := by
  have hb8 := (h.put _ (at_mem hk)).1
  have hsz := h.sz
  have h3 := rrest_ok (bufAt t k) (by rw [bufAt_at]; omega)
  have h4 := rwith_buf t.bufs k (bufAt t k).tail (by omega)
  rw [bufAt_at] at *
  have hk1 : (k : Int) < t.bufs.length := by omega
  unfold encTso tCells ivs
  unfold encBuf at h4
  refine jcalls Tryz.func127 rfl (by kernel_rfl) Tryz.ntmps127 rfl rfl (fun w0 β0 ext hβ => ?_)
  repeat (first | refine js rfl ?_ | refine jbu rfl rfl rfl rfl ?_)
  refine jdrawPT [(0, .p), (1, .r), (2, .p), (3, .p), (4, .r), (5, .p), (6, .p), (7, .p), (8, .p), (9, .p), (10, .p), (11, .m)] rfl (by kernel_rfl) ?_
  repeat (first | refine js rfl ?_ | (refine jdraw ?_ ?_; · kernel_rfl) | refine jbu rfl rfl rfl rfl ?_ | refine jo rfl rfl (index_at rfl rfl rfl rfl rfl rfl rfl rfl (Int.natCast_nonneg k) hk1) rfl rfl ?_ | refine jv h3 rfl rfl rfl rfl rfl ?_ | refine jv h4 rfl rfl rfl rfl rfl ?_)
  exact jr rfl rfl rfl rfl
end Go.AL
end
section
set_option maxRecDepth 100000
namespace Go.AL
open Go Go.Proofs
attribute [local irreducible] J
theorem rlocked_ok (t : Tso) (k : Nat) (kd a x y : Int) (h : TsR t) (hk : k < t.bufs.length) (hkd : kd = 0 ∨ kd = 1 ∨ kd = 2) :
    ACalls Tryz.prog 156 [encTso t, iv (k : Int), iv kd, iv a, iv x, iv y] [] (one (.tup [encTso (tsLocked t k kd a x y).1, iv (tsLocked t k kd a x y).2.1, iv (tsLocked t k kd a x y).2.2]) []) := by
  have h2 := rload_ok t.mem a h.mem
  have h3 := fun v => rstore_ok t.mem a v h.mem
  unfold tsLocked
  rw [bufAt_at] at *
  have hk1 : (k : Int) < t.bufs.length := by omega
  unfold encTso tCells ivs
  unfold encMem mCells ivs at h2
  generalize mLoad t.mem a = ld at *
  obtain ⟨v, e⟩ := ld
  simp only at *
  have h3 := h3 (become kd v x y)
  generalize mStore t.mem a (become kd v x y) = st at *
  obtain ⟨⟨ws, ts⟩, e2⟩ := st
  unfold encMem mCells ivs at h3
  simp only at *
  generalize hbb : at' t.bufs (k : Int) = bb at *
  have hl : decide ((((bb.map encPut).length : Nat) : Int) > 0) = !decide (bb.length = 0) := by rw [List.length_map]; exact dec_not (by omega)
  cases hz : decide (bb.length = 0) with
  | false =>
    rw [hz] at hl
    refine jcalls Tryz.func156 rfl (by kernel_rfl) Tryz.ntmps156 rfl rfl (fun w0 β0 ext hβ => ?_)
    repeat (first | refine js rfl ?_ | (refine jdraw ?_ ?_; · kernel_rfl) | refine jbu rfl rfl rfl rfl ?_ | refine jo rfl rfl (index_at rfl rfl rfl rfl rfl rfl rfl rfl (Int.natCast_nonneg k) hk1) rfl rfl ?_)
    rw [hbb]
    repeat (first | refine js rfl ?_ | (refine jdraw ?_ ?_; · kernel_rfl) | refine jbu rfl rfl rfl rfl ?_)
    rw [hl]
    repeat (first | refine js rfl ?_ | (refine jdraw ?_ ?_; · kernel_rfl) | refine jbu rfl rfl rfl rfl ?_)
    exact jr rfl rfl rfl rfl
  | true =>
    rw [hz] at hl
    by_cases he : e = 0
    · subst he
      rcases hkd with rfl | rfl | rfl
      · by_cases hv : v = x
        · have hq : become 0 v x y = y := by unfold become; rw [decide_eq_true hv]; rfl
          rw [hq] at h3
          refine jcalls Tryz.func156 rfl (by kernel_rfl) Tryz.ntmps156 rfl rfl (fun w0 β0 ext hβ => ?_)
          repeat (first | refine js rfl ?_ | (refine jdraw ?_ ?_; · kernel_rfl) | refine jbu rfl rfl rfl rfl ?_ | refine jo rfl rfl (index_at rfl rfl rfl rfl rfl rfl rfl rfl (Int.natCast_nonneg k) hk1) rfl rfl ?_)
          rw [hbb]
          repeat (first | refine js rfl ?_ | (refine jdraw ?_ ?_; · kernel_rfl) | refine jbu rfl rfl rfl rfl ?_)
          rw [hl]
          repeat (first | refine js rfl ?_ | (refine jdraw ?_ ?_; · kernel_rfl) | refine jbu rfl rfl rfl rfl ?_ | refine jv h2 rfl rfl rfl rfl rfl ?_)
          rw [show ((v == x)) = true from by simpa using hv]
          repeat (first | refine js rfl ?_ | (refine jdraw ?_ ?_; · kernel_rfl) | refine jbu rfl rfl rfl rfl ?_ | refine jv h3 rfl rfl rfl rfl rfl ?_)
          exact jr rfl rfl rfl rfl
        · have hq : become 0 v x y = v := by unfold become; rw [decide_eq_false hv]; rfl
          rw [hq] at h3
          refine jcalls Tryz.func156 rfl (by kernel_rfl) Tryz.ntmps156 rfl rfl (fun w0 β0 ext hβ => ?_)
          repeat (first | refine js rfl ?_ | (refine jdraw ?_ ?_; · kernel_rfl) | refine jbu rfl rfl rfl rfl ?_ | refine jo rfl rfl (index_at rfl rfl rfl rfl rfl rfl rfl rfl (Int.natCast_nonneg k) hk1) rfl rfl ?_)
          rw [hbb]
          repeat (first | refine js rfl ?_ | (refine jdraw ?_ ?_; · kernel_rfl) | refine jbu rfl rfl rfl rfl ?_)
          rw [hl]
          repeat (first | refine js rfl ?_ | (refine jdraw ?_ ?_; · kernel_rfl) | refine jbu rfl rfl rfl rfl ?_ | refine jv h2 rfl rfl rfl rfl rfl ?_)
          rw [show ((v == x)) = false from by rw [beq_eq_false_iff_ne]; exact hv]
          repeat (first | refine js rfl ?_ | (refine jdraw ?_ ?_; · kernel_rfl) | refine jbu rfl rfl rfl rfl ?_ | refine jv h3 rfl rfl rfl rfl rfl ?_)
          exact jr rfl rfl rfl rfl
      · refine jcalls Tryz.func156 rfl (by kernel_rfl) Tryz.ntmps156 rfl rfl (fun w0 β0 ext hβ => ?_)
        repeat (first | refine js rfl ?_ | (refine jdraw ?_ ?_; · kernel_rfl) | refine jbu rfl rfl rfl rfl ?_ | refine jo rfl rfl (index_at rfl rfl rfl rfl rfl rfl rfl rfl (Int.natCast_nonneg k) hk1) rfl rfl ?_)
        rw [hbb]
        repeat (first | refine js rfl ?_ | (refine jdraw ?_ ?_; · kernel_rfl) | refine jbu rfl rfl rfl rfl ?_)
        rw [hl]
        repeat (first | refine js rfl ?_ | (refine jdraw ?_ ?_; · kernel_rfl) | refine jbu rfl rfl rfl rfl ?_ | refine jv h2 rfl rfl rfl rfl rfl ?_ | refine jv h3 rfl rfl rfl rfl rfl ?_)
        exact jr rfl rfl rfl rfl
      · refine jcalls Tryz.func156 rfl (by kernel_rfl) Tryz.ntmps156 rfl rfl (fun w0 β0 ext hβ => ?_)
        repeat (first | refine js rfl ?_ | (refine jdraw ?_ ?_; · kernel_rfl) | refine jbu rfl rfl rfl rfl ?_ | refine jo rfl rfl (index_at rfl rfl rfl rfl rfl rfl rfl rfl (Int.natCast_nonneg k) hk1) rfl rfl ?_)
        rw [hbb]
        repeat (first | refine js rfl ?_ | (refine jdraw ?_ ?_; · kernel_rfl) | refine jbu rfl rfl rfl rfl ?_)
        rw [hl]
        repeat (first | refine js rfl ?_ | (refine jdraw ?_ ?_; · kernel_rfl) | refine jbu rfl rfl rfl rfl ?_ | refine jv h2 rfl rfl rfl rfl rfl ?_ | refine jv h3 rfl rfl rfl rfl rfl ?_)
        exact jr rfl rfl rfl rfl
    · have hd : (e != 0) = true := by rw [bne_iff_ne]; exact he
      rw [decide_eq_false he]
      refine jcalls Tryz.func156 rfl (by kernel_rfl) Tryz.ntmps156 rfl rfl (fun w0 β0 ext hβ => ?_)
      repeat (first | refine js rfl ?_ | (refine jdraw ?_ ?_; · kernel_rfl) | refine jbu rfl rfl rfl rfl ?_ | refine jo rfl rfl (index_at rfl rfl rfl rfl rfl rfl rfl rfl (Int.natCast_nonneg k) hk1) rfl rfl ?_)
      rw [hbb]
      repeat (first | refine js rfl ?_ | (refine jdraw ?_ ?_; · kernel_rfl) | refine jbu rfl rfl rfl rfl ?_)
      rw [hl]
      repeat (first | refine js rfl ?_ | (refine jdraw ?_ ?_; · kernel_rfl) | refine jbu rfl rfl rfl rfl ?_ | refine jv h2 rfl rfl rfl rfl rfl ?_)
      rw [hd]
      repeat (first | refine js rfl ?_ | (refine jdraw ?_ ?_; · kernel_rfl) | refine jbu rfl rfl rfl rfl ?_)
      exact jr rfl rfl rfl rfl
def rCall (t : Thr) (to : Int) : Thr × Int := cond (decide (t.frames.length = 6)) (thr0, 13) ({ t with frames := t.frames ++ [⟨t.pc + 1, [g0 t.regs 4, g0 t.regs 5, g0 t.regs 6, g0 t.regs 7]⟩], pc := to }, 0)
theorem rcall_ok (t : Thr) (to : Int) (hf : t.frames.length ≤ 1000) (hp : 0 ≤ t.pc ∧ t.pc ≤ 1000) : ACalls Tryz.prog 151 [encThr t, iv to] [] (one (.tup [resThr (rCall t to), iv (rCall t to).2]) []) := by
  have hw : IntKind.i64.wrap (t.pc + 1) = t.pc + 1 := by rw [wrap_id] <;> omega
  have e2 : ((((t.frames.map encFrm).length : Nat) : Int) == 6) = decide (t.frames.length = 6) := by rw [List.length_map, int_beq]; exact decide_eq_decide.2 (by omega)
  unfold rCall
  cases h6 : decide (t.frames.length = 6) with
  | true =>
    rw [h6] at e2
    unfold encThr thCells
    refine jcalls Tryz.func151 rfl (by kernel_rfl) Tryz.ntmps151 rfl rfl (fun w0 β0 ext hβ => ?_)
    repeat (first | refine js rfl ?_ | (refine jdraw ?_ ?_; · kernel_rfl) | refine jbu rfl rfl rfl rfl ?_)
    rw [e2]
    repeat (first | refine js rfl ?_ | (refine jdraw ?_ ?_; · kernel_rfl) | refine jbu rfl rfl rfl rfl ?_)
    exact jr rfl rfl rfl rfl
  | false =>
    rw [h6] at e2
    unfold encThr thCells
    refine jcalls Tryz.func151 rfl (by kernel_rfl) Tryz.ntmps151 rfl rfl (fun w0 β0 ext hβ => ?_)
    repeat (first | refine js rfl ?_ | (refine jdraw ?_ ?_; · kernel_rfl) | refine jbu rfl rfl rfl rfl ?_)
    rw [e2]
    repeat (first | refine jad 6 131 5 rfl rfl rfl rfl ?_ | refine js rfl ?_ | (refine jdraw ?_ ?_; · kernel_rfl) | refine jbu rfl rfl rfl rfl ?_ | refine jo rfl rfl (index_arr rfl rfl rfl rfl rfl (by decide) (by decide)) rfl rfl ?_)
    refine jo rfl rfl (append_encs (enc := encFrm) (l := []) (l2 := t.frames) rfl rfl rfl rfl rfl rfl rfl rfl rfl (fun x => ⟨rfl, rfl⟩) rfl (by simp; omega) rfl rfl) rfl rfl ?_
    repeat (first | refine js rfl ?_ | (refine jdraw ?_ ?_; · kernel_rfl) | refine jbu rfl rfl rfl rfl ?_ | refine jo rfl rfl (index_arr rfl rfl rfl rfl rfl (by decide) (by decide)) rfl rfl ?_)
    rw [hw]
    repeat (first | refine js rfl ?_ | (refine jdraw ?_ ?_; · kernel_rfl) | refine jbu rfl rfl rfl rfl ?_ | refine jo rfl rfl (index_arr rfl rfl rfl rfl rfl (by decide) (by decide)) rfl rfl ?_)
    refine jo rfl rfl (append_enc (enc := encFrm) (l := t.frames) ⟨t.pc + 1, [g0 t.regs 4, g0 t.regs 5, g0 t.regs 6, g0 t.regs 7]⟩ rfl rfl rfl rfl rfl rfl rfl rfl rfl rfl (fun x => ⟨rfl, rfl⟩) rfl (by omega) rfl rfl) rfl rfl ?_
    repeat (first | refine js rfl ?_ | (refine jdraw ?_ ?_; · kernel_rfl) | refine jbu rfl rfl rfl rfl ?_)
    exact jret [] true rfl rfl rfl ⟨rfl, rfl⟩
end Go.AL
end
section
set_option maxRecDepth 100000
namespace Go.AL
open Go Go.Proofs
attribute [local irreducible] J
def rBack (t : Thr) : Thr × Int := match t.frames.getLast? with
  | none => (thr0, 8)
  | some f => ({ t with frames := t.frames.dropLast, pc := f.back, regs := [g0 t.regs 0, g0 t.regs 1, g0 t.regs 2, g0 t.regs 3, g0 f.kept 0, g0 f.kept 1, g0 f.kept 2, g0 f.kept 3] }, 0)
set_option maxHeartbeats 2000000 in
theorem rback_ok (t : Thr) (hf : t.frames.length ≤ 1000) : ACalls Tryz.prog 152 [encThr t] [] (one (.tup [resThr (rBack t), iv (rBack t).2]) []) := by
  unfold rBack
  have e2 : ((((t.frames.map encFrm).length : Nat) : Int) == 0) = decide (t.frames = []) := by rw [List.length_map, int_beq]; exact decide_eq_decide.2 (by rw [← List.length_eq_zero_iff]; omega)
  cases he : decide (t.frames = []) with
  | true =>
    rw [he] at e2
    rw [show t.frames.getLast? = none by rw [of_decide_eq_true he]; rfl]
    unfold encThr thCells at *
    refine jcalls Tryz.func152 rfl (by kernel_rfl) Tryz.ntmps152 rfl rfl (fun w0 β0 ext hβ => ?_)
    repeat (first | refine js rfl ?_ | (refine jdraw ?_ ?_; · kernel_rfl) | refine jbu rfl rfl rfl rfl ?_)
    rw [e2]
    repeat (first | refine js rfl ?_ | (refine jdraw ?_ ?_; · kernel_rfl) | refine jbu rfl rfl rfl rfl ?_)
    exact jr rfl rfl rfl rfl
  | false =>
    rw [he] at e2
    have hne := of_decide_eq_false he
    have hpos : 0 < t.frames.length := List.length_pos_iff.2 hne
    rw [last_at hne]
    have hw : IntKind.i64.wrap ((((t.frames.map encFrm).length : Nat) : Int) - 1) = ((t.frames.length - 1 : Nat) : Int) := by rw [List.length_map, wrap_id] <;> omega
    have hlt : ((t.frames.length - 1 : Nat) : Int) < t.frames.length := by omega
    have hd : (t.frames.drop 0).take (t.frames.length - 1 - 0) = t.frames.dropLast := by rw [List.dropLast_eq_take]; rfl
    have hdl : t.frames.dropLast.length ≤ 1000 := by rw [List.length_dropLast]; omega
    generalize hx : at' t.frames ((t.frames.length - 1 : Nat) : Int) = f at *
    show ACalls _ _ _ _ (one (.tup [.agg [iv f.back, iv (g0 t.regs 0), iv (g0 t.regs 1), iv (g0 t.regs 2), iv (g0 t.regs 3), iv (g0 f.kept 0), iv (g0 f.kept 1), iv (g0 f.kept 2), iv (g0 f.kept 3), .sl (t.frames.dropLast.map encFrm), iv t.state, iv t.fault, .slz (t.left.map iv)], iv 0]) [])
    unfold encThr thCells at *
    refine jcalls Tryz.func152 rfl (by kernel_rfl) Tryz.ntmps152 rfl rfl (fun w0 β0 ext hβ => ?_)
    repeat (first | refine js rfl ?_ | (refine jdraw ?_ ?_; · kernel_rfl) | refine jbu rfl rfl rfl rfl ?_)
    rw [e2]
    repeat (first | refine js rfl ?_ | (refine jdraw ?_ ?_; · kernel_rfl) | refine jbu rfl rfl rfl rfl ?_)
    rw [hw]
    repeat (first | refine jad 6 131 5 rfl rfl rfl rfl ?_ | refine js rfl ?_ | (refine jdraw ?_ ?_; · kernel_rfl) | refine jbu rfl rfl rfl rfl ?_ | refine jo rfl rfl (index_at rfl rfl rfl rfl rfl rfl rfl rfl (Int.natCast_nonneg _) hlt) rfl rfl ?_)
    rw [hx]
    rw [show encFrm f = .agg [iv f.back, iv (g0 f.kept 0), iv (g0 f.kept 1), iv (g0 f.kept 2), iv (g0 f.kept 3)] from rfl]
    repeat (first | refine jad 6 131 5 rfl rfl rfl rfl ?_ | refine js rfl ?_ | (refine jdraw ?_ ?_; · kernel_rfl) | refine jbu rfl rfl rfl rfl ?_)
    rw [hw]
    refine jo rfl rfl (cut_enc (enc := encFrm) (l := t.frames) 0 (t.frames.length - 1) rfl rfl rfl ⟨_, rfl⟩ rfl rfl rfl (fun x => ⟨rfl, rfl⟩) (by omega) (by omega)) rfl rfl ?_
    rw [hd]
    clear hd
    generalize t.frames.dropLast = dl at *
    refine jo rfl rfl (append_encs (enc := encFrm) (l := []) (l2 := dl) rfl rfl rfl rfl rfl rfl rfl rfl rfl (fun x => ⟨rfl, rfl⟩) rfl (by simp only [List.length_nil]; omega) rfl rfl) rfl rfl ?_
    repeat (first | refine jo rfl rfl (index_arr rfl rfl rfl rfl rfl (by decide) (by decide)) rfl rfl ?_ | refine js rfl ?_ | (refine jdraw ?_ ?_; · kernel_rfl) | refine jbu rfl rfl rfl rfl ?_)
    exact jret [] true rfl rfl rfl ⟨rfl, rfl⟩
def arrA (r : List Int) : List AVal := [iv (g0 r 0), iv (g0 r 1), iv (g0 r 2), iv (g0 r 3), iv (g0 r 4), iv (g0 r 5), iv (g0 r 6), iv (g0 r 7)]
theorem arr_get (r : List Int) {k : Int} (h0 : 0 ≤ k) (h8 : k < 8) : takeA ty3 (arrA r) (0 + k.toNat * ty3.size) = some (iv (g0 r k.toNat)) := by
  rcases eight h0 h8 with rfl | rfl | rfl | rfl | rfl | rfl | rfl | rfl <;> rfl
def setL (r : List Int) (k v : Int) : List Int := regs8 fun j => cond (decide (j = k.toNat)) v (g0 r j)
theorem arr_set (r : List Int) (v : Int) {k : Int} (h0 : 0 ≤ k) (h8 : k < 8) : spliceA (arrA r) (0 + k.toNat * ty3.size) [iv v] = arrA (setL r k v) := by
  rcases eight h0 h8 with rfl | rfl | rfl | rfl | rfl | rfl | rfl | rfl <;> rfl
theorem rset_ok (r : List Int) (k v : Int) (h0 : 0 ≤ k) (h8 : k < 8) : ACalls Tryz.prog 153 [.agg (arrA r), iv k, iv v] [] (one (.agg (arrA (setL r k v))) []) := by
  have hs := arr_set r v h0 h8
  have hle : 0 + k.toNat * ty3.size + 1 ≤ 8 := by show 0 + k.toNat * 1 + 1 ≤ 8; omega
  unfold arrA at *
  refine jcalls Tryz.func153 rfl (by kernel_rfl) Tryz.ntmps153 rfl rfl (fun w0 β0 ext hβ => ?_)
  repeat (first | refine js rfl ?_ | (refine jdraw ?_ ?_; · kernel_rfl) | refine jbu rfl rfl rfl rfl ?_ | refine jo rfl rfl (index_arr rfl rfl rfl rfl rfl h0 h8) rfl rfl ?_ | refine jo rfl rfl (store_box (r' := ty3) (v := iv v) rfl rfl rfl rfl rfl rfl hle hs) rfl rfl ?_)
  exact jr rfl rfl rfl rfl
theorem rap_1 (t : Thr) (s a b c : Int) (hp : 0 ≤ t.pc ∧ t.pc < 1000) (ha : rgs a) :
    ACalls Tryz.prog 122 [encThr t, iv s, .agg [iv 1, iv a, iv b, iv c]] [] (one (.tup [encThr (loDo s ⟨1, a, b, c⟩ { t with pc := t.pc + 1 }), iv 0]) []) := by
  have hw : IntKind.i64.wrap (t.pc + 1) = t.pc + 1 := by rw [wrap_id] <;> omega
  have hs := fun v => rset_ok t.regs a v ha.1 ha.2
  unfold arrA at *
  unfold encThr thCells
  refine jcalls Tryz.func122 rfl (by kernel_rfl) Tryz.ntmps122 rfl rfl (fun w0 β0 ext hβ => ?_)
  repeat (first | refine js rfl ?_ | (refine jdraw ?_ ?_; · kernel_rfl) | refine jbu rfl rfl rfl rfl ?_)
  rw [hw]
  repeat (first | refine js rfl ?_ | (refine jdraw ?_ ?_; · kernel_rfl) | refine jbu rfl rfl rfl rfl ?_ | refine jv (hs _) rfl rfl rfl rfl rfl ?_)
  exact jr rfl rfl rfl rfl
theorem rap_2 (t : Thr) (s a b c : Int) (hp : 0 ≤ t.pc ∧ t.pc < 1000) (ha : rgs a) (hb : rgs b) :
    ACalls Tryz.prog 122 [encThr t, iv s, .agg [iv 2, iv a, iv b, iv c]] [] (one (.tup [encThr (loDo s ⟨2, a, b, c⟩ { t with pc := t.pc + 1 }), iv 0]) []) := by
  have hw : IntKind.i64.wrap (t.pc + 1) = t.pc + 1 := by rw [wrap_id] <;> omega
  have gb := arr_get t.regs hb.1 hb.2
  have hs := fun v => rset_ok t.regs a v ha.1 ha.2
  unfold arrA at *
  unfold encThr thCells
  refine jcalls Tryz.func122 rfl (by kernel_rfl) Tryz.ntmps122 rfl rfl (fun w0 β0 ext hβ => ?_)
  repeat (first | refine js rfl ?_ | (refine jdraw ?_ ?_; · kernel_rfl) | refine jbu rfl rfl rfl rfl ?_)
  rw [hw]
  repeat (first | refine js rfl ?_ | (refine jdraw ?_ ?_; · kernel_rfl) | refine jbu rfl rfl rfl rfl ?_ | refine jv (hs _) rfl rfl rfl rfl rfl ?_ | refine jo rfl rfl (index_arr rfl rfl rfl rfl rfl hb.1 hb.2) rfl rfl ?_ | refine jo rfl rfl (load_dsem (r := ty3) rfl rfl rfl gb) rfl rfl ?_)
  exact jr rfl rfl rfl rfl
theorem rap_3 (t : Thr) (s a b c : Int) (hp : 0 ≤ t.pc ∧ t.pc < 1000) (ha : rgs a) (hb : rgs b) :
    ACalls Tryz.prog 122 [encThr t, iv s, .agg [iv 3, iv a, iv b, iv c]] [] (one (.tup [encThr (loDo s ⟨3, a, b, c⟩ { t with pc := t.pc + 1 }), iv 0]) []) := by
  have hw : IntKind.i64.wrap (t.pc + 1) = t.pc + 1 := by rw [wrap_id] <;> omega
  have gb := arr_get t.regs hb.1 hb.2
  have hs := fun v => rset_ok t.regs a v ha.1 ha.2
  unfold arrA at *
  unfold encThr thCells
  refine jcalls Tryz.func122 rfl (by kernel_rfl) Tryz.ntmps122 rfl rfl (fun w0 β0 ext hβ => ?_)
  repeat (first | refine js rfl ?_ | (refine jdraw ?_ ?_; · kernel_rfl) | refine jbu rfl rfl rfl rfl ?_)
  rw [hw]
  repeat (first | refine js rfl ?_ | (refine jdraw ?_ ?_; · kernel_rfl) | refine jbu rfl rfl rfl rfl ?_ | refine jv (hs _) rfl rfl rfl rfl rfl ?_ | refine jo rfl rfl (index_arr rfl rfl rfl rfl rfl hb.1 hb.2) rfl rfl ?_ | refine jo rfl rfl (load_dsem (r := ty3) rfl rfl rfl gb) rfl rfl ?_)
  exact jr rfl rfl rfl rfl
theorem rap_4 (t : Thr) (s a b c : Int) (hp : 0 ≤ t.pc ∧ t.pc < 1000) (ha : rgs a) (hb : rgs b) :
    ACalls Tryz.prog 122 [encThr t, iv s, .agg [iv 4, iv a, iv b, iv c]] [] (one (.tup [encThr (loDo s ⟨4, a, b, c⟩ { t with pc := t.pc + 1 }), iv 0]) []) := by
  have hw : IntKind.i64.wrap (t.pc + 1) = t.pc + 1 := by rw [wrap_id] <;> omega
  have gb := arr_get t.regs hb.1 hb.2
  have hs := fun v => rset_ok t.regs a v ha.1 ha.2
  unfold arrA at *
  unfold encThr thCells
  refine jcalls Tryz.func122 rfl (by kernel_rfl) Tryz.ntmps122 rfl rfl (fun w0 β0 ext hβ => ?_)
  repeat (first | refine js rfl ?_ | (refine jdraw ?_ ?_; · kernel_rfl) | refine jbu rfl rfl rfl rfl ?_)
  rw [hw]
  repeat (first | refine js rfl ?_ | (refine jdraw ?_ ?_; · kernel_rfl) | refine jbu rfl rfl rfl rfl ?_ | refine jv (hs _) rfl rfl rfl rfl rfl ?_ | refine jo rfl rfl (index_arr rfl rfl rfl rfl rfl hb.1 hb.2) rfl rfl ?_ | refine jo rfl rfl (load_dsem (r := ty3) rfl rfl rfl gb) rfl rfl ?_)
  exact jr rfl rfl rfl rfl
theorem rap_5 (t : Thr) (s a b c : Int) (hp : 0 ≤ t.pc ∧ t.pc < 1000) (ha : rgs a) (hb : rgs b) (hc : rgs c) :
    ACalls Tryz.prog 122 [encThr t, iv s, .agg [iv 5, iv a, iv b, iv c]] [] (one (.tup [encThr (loDo s ⟨5, a, b, c⟩ { t with pc := t.pc + 1 }), iv 0]) []) := by
  have hw : IntKind.i64.wrap (t.pc + 1) = t.pc + 1 := by rw [wrap_id] <;> omega
  have gb := arr_get t.regs hb.1 hb.2
  have gc := arr_get t.regs hc.1 hc.2
  have hs := fun v => rset_ok t.regs a v ha.1 ha.2
  unfold arrA at *
  unfold encThr thCells
  refine jcalls Tryz.func122 rfl (by kernel_rfl) Tryz.ntmps122 rfl rfl (fun w0 β0 ext hβ => ?_)
  repeat (first | refine js rfl ?_ | (refine jdraw ?_ ?_; · kernel_rfl) | refine jbu rfl rfl rfl rfl ?_)
  rw [hw]
  repeat (first | refine js rfl ?_ | (refine jdraw ?_ ?_; · kernel_rfl) | refine jbu rfl rfl rfl rfl ?_ | refine jv (hs _) rfl rfl rfl rfl rfl ?_ | refine jo rfl rfl (index_arr rfl rfl rfl rfl rfl hb.1 hb.2) rfl rfl ?_ | refine jo rfl rfl (load_dsem (r := ty3) rfl rfl rfl gb) rfl rfl ?_ | refine jo rfl rfl (index_arr rfl rfl rfl rfl rfl hc.1 hc.2) rfl rfl ?_ | refine jo rfl rfl (load_dsem (r := ty3) rfl rfl rfl gc) rfl rfl ?_)
  exact jr rfl rfl rfl rfl
theorem rap_6 (t : Thr) (s a b c : Int) (hp : 0 ≤ t.pc ∧ t.pc < 1000) (ha : rgs a) (hb : rgs b) (hc : rgs c) :
    ACalls Tryz.prog 122 [encThr t, iv s, .agg [iv 6, iv a, iv b, iv c]] [] (one (.tup [encThr (loDo s ⟨6, a, b, c⟩ { t with pc := t.pc + 1 }), iv 0]) []) := by
  have hw : IntKind.i64.wrap (t.pc + 1) = t.pc + 1 := by rw [wrap_id] <;> omega
  have gb := arr_get t.regs hb.1 hb.2
  have gc := arr_get t.regs hc.1 hc.2
  have hs := fun v => rset_ok t.regs a v ha.1 ha.2
  unfold arrA at *
  unfold encThr thCells
  refine jcalls Tryz.func122 rfl (by kernel_rfl) Tryz.ntmps122 rfl rfl (fun w0 β0 ext hβ => ?_)
  repeat (first | refine js rfl ?_ | (refine jdraw ?_ ?_; · kernel_rfl) | refine jbu rfl rfl rfl rfl ?_)
  rw [hw]
  repeat (first | refine js rfl ?_ | (refine jdraw ?_ ?_; · kernel_rfl) | refine jbu rfl rfl rfl rfl ?_ | refine jv (hs _) rfl rfl rfl rfl rfl ?_ | refine jo rfl rfl (index_arr rfl rfl rfl rfl rfl hb.1 hb.2) rfl rfl ?_ | refine jo rfl rfl (load_dsem (r := ty3) rfl rfl rfl gb) rfl rfl ?_ | refine jo rfl rfl (index_arr rfl rfl rfl rfl rfl hc.1 hc.2) rfl rfl ?_ | refine jo rfl rfl (load_dsem (r := ty3) rfl rfl rfl gc) rfl rfl ?_)
  exact jr rfl rfl rfl rfl
theorem rap_7 (t : Thr) (s a b c : Int) (hp : 0 ≤ t.pc ∧ t.pc < 1000) (ha : rgs a) (hb : rgs b) (hc : rgs c) :
    ACalls Tryz.prog 122 [encThr t, iv s, .agg [iv 7, iv a, iv b, iv c]] [] (one (.tup [encThr (loDo s ⟨7, a, b, c⟩ { t with pc := t.pc + 1 }), iv 0]) []) := by
  have hw : IntKind.i64.wrap (t.pc + 1) = t.pc + 1 := by rw [wrap_id] <;> omega
  have gb := arr_get t.regs hb.1 hb.2
  have gc := arr_get t.regs hc.1 hc.2
  have hs := fun v => rset_ok t.regs a v ha.1 ha.2
  unfold arrA at *
  unfold encThr thCells
  refine jcalls Tryz.func122 rfl (by kernel_rfl) Tryz.ntmps122 rfl rfl (fun w0 β0 ext hβ => ?_)
  repeat (first | refine js rfl ?_ | (refine jdraw ?_ ?_; · kernel_rfl) | refine jbu rfl rfl rfl rfl ?_)
  rw [hw]
  repeat (first | refine js rfl ?_ | (refine jdraw ?_ ?_; · kernel_rfl) | refine jbu rfl rfl rfl rfl ?_ | refine jv (hs _) rfl rfl rfl rfl rfl ?_ | refine jo rfl rfl (index_arr rfl rfl rfl rfl rfl hb.1 hb.2) rfl rfl ?_ | refine jo rfl rfl (load_dsem (r := ty3) rfl rfl rfl gb) rfl rfl ?_ | refine jo rfl rfl (index_arr rfl rfl rfl rfl rfl hc.1 hc.2) rfl rfl ?_ | refine jo rfl rfl (load_dsem (r := ty3) rfl rfl rfl gc) rfl rfl ?_)
  exact jr rfl rfl rfl rfl
theorem rap_8 (t : Thr) (s a b c : Int) (hp : 0 ≤ t.pc ∧ t.pc < 1000) (ha : rgs a) (hb : rgs b) (hc : rgs c) :
    ACalls Tryz.prog 122 [encThr t, iv s, .agg [iv 8, iv a, iv b, iv c]] [] (one (.tup [encThr (loDo s ⟨8, a, b, c⟩ { t with pc := t.pc + 1 }), iv 0]) []) := by
  have hw : IntKind.i64.wrap (t.pc + 1) = t.pc + 1 := by rw [wrap_id] <;> omega
  have gb := arr_get t.regs hb.1 hb.2
  have gc := arr_get t.regs hc.1 hc.2
  have hs := fun v => rset_ok t.regs a v ha.1 ha.2
  unfold arrA at *
  unfold encThr thCells
  refine jcalls Tryz.func122 rfl (by kernel_rfl) Tryz.ntmps122 rfl rfl (fun w0 β0 ext hβ => ?_)
  repeat (first | refine js rfl ?_ | (refine jdraw ?_ ?_; · kernel_rfl) | refine jbu rfl rfl rfl rfl ?_)
  rw [hw]
  repeat (first | refine js rfl ?_ | (refine jdraw ?_ ?_; · kernel_rfl) | refine jbu rfl rfl rfl rfl ?_ | refine jv (hs _) rfl rfl rfl rfl rfl ?_ | refine jo rfl rfl (index_arr rfl rfl rfl rfl rfl hb.1 hb.2) rfl rfl ?_ | refine jo rfl rfl (load_dsem (r := ty3) rfl rfl rfl gb) rfl rfl ?_ | refine jo rfl rfl (index_arr rfl rfl rfl rfl rfl hc.1 hc.2) rfl rfl ?_ | refine jo rfl rfl (load_dsem (r := ty3) rfl rfl rfl gc) rfl rfl ?_)
  exact jr rfl rfl rfl rfl
theorem rap_9 (t : Thr) (s a b c : Int) (hp : 0 ≤ t.pc ∧ t.pc < 1000) (ha : rgs a) (hb : rgs b) (hc : rgs c) :
    ACalls Tryz.prog 122 [encThr t, iv s, .agg [iv 9, iv a, iv b, iv c]] [] (one (.tup [encThr (loDo s ⟨9, a, b, c⟩ { t with pc := t.pc + 1 }), iv 0]) []) := by
  have hw : IntKind.i64.wrap (t.pc + 1) = t.pc + 1 := by rw [wrap_id] <;> omega
  have gb := arr_get t.regs hb.1 hb.2
  have gc := arr_get t.regs hc.1 hc.2
  have hs := fun v => rset_ok t.regs a v ha.1 ha.2
  unfold arrA at *
  unfold encThr thCells
  by_cases hlt : rg t b < rg t c
  · have e : loDo s ⟨9, a, b, c⟩ { t with pc := t.pc + 1 } = setR { t with pc := t.pc + 1 } a 1 := by
      show setR _ _ (cond (decide (rg t b < rg t c)) 1 0) = _
      rw [decide_eq_true hlt]; rfl
    rw [e]
    refine jcalls Tryz.func122 rfl (by kernel_rfl) Tryz.ntmps122 rfl rfl (fun w0 β0 ext hβ => ?_)
    repeat (first | refine js rfl ?_ | (refine jdraw ?_ ?_; · kernel_rfl) | refine jbu rfl rfl rfl rfl ?_)
    rw [hw]
    repeat (first | refine js rfl ?_ | (refine jdraw ?_ ?_; · kernel_rfl) | refine jbu rfl rfl rfl rfl ?_ | refine jo rfl rfl (index_arr rfl rfl rfl rfl rfl hb.1 hb.2) rfl rfl ?_ | refine jo rfl rfl (load_dsem (r := ty3) rfl rfl rfl gb) rfl rfl ?_ | refine jo rfl rfl (index_arr rfl rfl rfl rfl rfl hc.1 hc.2) rfl rfl ?_ | refine jo rfl rfl (load_dsem (r := ty3) rfl rfl rfl gc) rfl rfl ?_)
    rw [show decide (g0 t.regs b.toNat < g0 t.regs c.toNat) = true from decide_eq_true hlt]
    repeat (first | refine js rfl ?_ | (refine jdraw ?_ ?_; · kernel_rfl) | refine jbu rfl rfl rfl rfl ?_ | refine jv (hs _) rfl rfl rfl rfl rfl ?_)
    exact jr rfl rfl rfl rfl
  · have e : loDo s ⟨9, a, b, c⟩ { t with pc := t.pc + 1 } = setR { t with pc := t.pc + 1 } a 0 := by
      show setR _ _ (cond (decide (rg t b < rg t c)) 1 0) = _
      rw [decide_eq_false hlt]; rfl
    rw [e]
    refine jcalls Tryz.func122 rfl (by kernel_rfl) Tryz.ntmps122 rfl rfl (fun w0 β0 ext hβ => ?_)
    repeat (first | refine js rfl ?_ | (refine jdraw ?_ ?_; · kernel_rfl) | refine jbu rfl rfl rfl rfl ?_)
    rw [hw]
    repeat (first | refine js rfl ?_ | (refine jdraw ?_ ?_; · kernel_rfl) | refine jbu rfl rfl rfl rfl ?_ | refine jo rfl rfl (index_arr rfl rfl rfl rfl rfl hb.1 hb.2) rfl rfl ?_ | refine jo rfl rfl (load_dsem (r := ty3) rfl rfl rfl gb) rfl rfl ?_ | refine jo rfl rfl (index_arr rfl rfl rfl rfl rfl hc.1 hc.2) rfl rfl ?_ | refine jo rfl rfl (load_dsem (r := ty3) rfl rfl rfl gc) rfl rfl ?_)
    rw [show decide (g0 t.regs b.toNat < g0 t.regs c.toNat) = false from decide_eq_false hlt]
    repeat (first | refine js rfl ?_ | (refine jdraw ?_ ?_; · kernel_rfl) | refine jbu rfl rfl rfl rfl ?_ | refine jv (hs _) rfl rfl rfl rfl rfl ?_)
    exact jr rfl rfl rfl rfl
theorem rap_10 (t : Thr) (s a b c : Int) (hp : 0 ≤ t.pc ∧ t.pc < 1000) :
    ACalls Tryz.prog 122 [encThr t, iv s, .agg [iv 10, iv a, iv b, iv c]] [] (one (.tup [encThr (loDo s ⟨10, a, b, c⟩ { t with pc := t.pc + 1 }), iv 0]) []) := by
  have hw : IntKind.i64.wrap (t.pc + 1) = t.pc + 1 := by rw [wrap_id] <;> omega
  unfold encThr thCells
  refine jcalls Tryz.func122 rfl (by kernel_rfl) Tryz.ntmps122 rfl rfl (fun w0 β0 ext hβ => ?_)
  repeat (first | refine js rfl ?_ | (refine jdraw ?_ ?_; · kernel_rfl) | refine jbu rfl rfl rfl rfl ?_)
  rw [hw]
  repeat (first | refine js rfl ?_ | (refine jdraw ?_ ?_; · kernel_rfl) | refine jbu rfl rfl rfl rfl ?_)
  exact jr rfl rfl rfl rfl
theorem rap_11 (t : Thr) (s a b c : Int) (hp : 0 ≤ t.pc ∧ t.pc < 1000) (ha : rgs a) :
    ACalls Tryz.prog 122 [encThr t, iv s, .agg [iv 11, iv a, iv b, iv c]] [] (one (.tup [encThr (loDo s ⟨11, a, b, c⟩ { t with pc := t.pc + 1 }), iv 0]) []) := by
  have hw : IntKind.i64.wrap (t.pc + 1) = t.pc + 1 := by rw [wrap_id] <;> omega
  have ga := arr_get t.regs ha.1 ha.2
  unfold arrA at *
  unfold encThr thCells
  by_cases hz : rg t a = 0
  ·
    have e : loDo s ⟨11, a, b, c⟩ { t with pc := t.pc + 1 } = { t with pc := b } := by
      show cond (decide (rg t a = 0)) _ _ = _
      rw [decide_eq_true hz]; rfl
    rw [e]
    refine jcalls Tryz.func122 rfl (by kernel_rfl) Tryz.ntmps122 rfl rfl (fun w0 β0 ext hβ => ?_)
    repeat (first | refine js rfl ?_ | (refine jdraw ?_ ?_; · kernel_rfl) | refine jbu rfl rfl rfl rfl ?_)
    rw [hw]
    repeat (first | refine js rfl ?_ | (refine jdraw ?_ ?_; · kernel_rfl) | refine jbu rfl rfl rfl rfl ?_ | refine jo rfl rfl (index_arr rfl rfl rfl rfl rfl ha.1 ha.2) rfl rfl ?_ | refine jo rfl rfl (load_dsem (r := ty3) rfl rfl rfl ga) rfl rfl ?_)
    rw [show (g0 t.regs a.toNat == 0) = true from by rw [beq_iff_eq]; exact hz]
    repeat (first | refine js rfl ?_ | (refine jdraw ?_ ?_; · kernel_rfl) | refine jbu rfl rfl rfl rfl ?_)
    exact jr rfl rfl rfl rfl
  ·
    have e : loDo s ⟨11, a, b, c⟩ { t with pc := t.pc + 1 } = { t with pc := t.pc + 1 } := by
      show cond (decide (rg t a = 0)) _ _ = _
      rw [decide_eq_false hz]; rfl
    rw [e]
    refine jcalls Tryz.func122 rfl (by kernel_rfl) Tryz.ntmps122 rfl rfl (fun w0 β0 ext hβ => ?_)
    repeat (first | refine js rfl ?_ | (refine jdraw ?_ ?_; · kernel_rfl) | refine jbu rfl rfl rfl rfl ?_)
    rw [hw]
    repeat (first | refine js rfl ?_ | (refine jdraw ?_ ?_; · kernel_rfl) | refine jbu rfl rfl rfl rfl ?_ | refine jo rfl rfl (index_arr rfl rfl rfl rfl rfl ha.1 ha.2) rfl rfl ?_ | refine jo rfl rfl (load_dsem (r := ty3) rfl rfl rfl ga) rfl rfl ?_)
    rw [show (g0 t.regs a.toNat == 0) = false from by rw [beq_eq_false_iff_ne]; exact hz]
    repeat (first | refine js rfl ?_ | (refine jdraw ?_ ?_; · kernel_rfl) | refine jbu rfl rfl rfl rfl ?_)
    exact jr rfl rfl rfl rfl
theorem rap_12 (t : Thr) (s a b c : Int) (hp : 0 ≤ t.pc ∧ t.pc < 1000) (ha : rgs a) :
    ACalls Tryz.prog 122 [encThr t, iv s, .agg [iv 12, iv a, iv b, iv c]] [] (one (.tup [encThr (loDo s ⟨12, a, b, c⟩ { t with pc := t.pc + 1 }), iv 0]) []) := by
  have hw : IntKind.i64.wrap (t.pc + 1) = t.pc + 1 := by rw [wrap_id] <;> omega
  have ga := arr_get t.regs ha.1 ha.2
  unfold arrA at *
  unfold encThr thCells
  by_cases hz : rg t a = 0
  ·
    have e : loDo s ⟨12, a, b, c⟩ { t with pc := t.pc + 1 } = { t with pc := t.pc + 1 } := by
      show cond (decide (rg t a = 0)) _ _ = _
      rw [decide_eq_true hz]; rfl
    rw [e]
    refine jcalls Tryz.func122 rfl (by kernel_rfl) Tryz.ntmps122 rfl rfl (fun w0 β0 ext hβ => ?_)
    repeat (first | refine js rfl ?_ | (refine jdraw ?_ ?_; · kernel_rfl) | refine jbu rfl rfl rfl rfl ?_)
    rw [hw]
    repeat (first | refine js rfl ?_ | (refine jdraw ?_ ?_; · kernel_rfl) | refine jbu rfl rfl rfl rfl ?_ | refine jo rfl rfl (index_arr rfl rfl rfl rfl rfl ha.1 ha.2) rfl rfl ?_ | refine jo rfl rfl (load_dsem (r := ty3) rfl rfl rfl ga) rfl rfl ?_)
    rw [show (g0 t.regs a.toNat != 0) = false from by rw [bne_eq_false_iff_eq]; exact hz]
    repeat (first | refine js rfl ?_ | (refine jdraw ?_ ?_; · kernel_rfl) | refine jbu rfl rfl rfl rfl ?_)
    exact jr rfl rfl rfl rfl
  ·
    have e : loDo s ⟨12, a, b, c⟩ { t with pc := t.pc + 1 } = { t with pc := b } := by
      show cond (decide (rg t a = 0)) _ _ = _
      rw [decide_eq_false hz]; rfl
    rw [e]
    refine jcalls Tryz.func122 rfl (by kernel_rfl) Tryz.ntmps122 rfl rfl (fun w0 β0 ext hβ => ?_)
    repeat (first | refine js rfl ?_ | (refine jdraw ?_ ?_; · kernel_rfl) | refine jbu rfl rfl rfl rfl ?_)
    rw [hw]
    repeat (first | refine js rfl ?_ | (refine jdraw ?_ ?_; · kernel_rfl) | refine jbu rfl rfl rfl rfl ?_ | refine jo rfl rfl (index_arr rfl rfl rfl rfl rfl ha.1 ha.2) rfl rfl ?_ | refine jo rfl rfl (load_dsem (r := ty3) rfl rfl rfl ga) rfl rfl ?_)
    rw [show (g0 t.regs a.toNat != 0) = true from by rw [bne_iff_ne]; exact hz]
    repeat (first | refine js rfl ?_ | (refine jdraw ?_ ?_; · kernel_rfl) | refine jbu rfl rfl rfl rfl ?_)
    exact jr rfl rfl rfl rfl
theorem rap_15 (t : Thr) (s a b c : Int) (hp : 0 ≤ t.pc ∧ t.pc < 1000) (ha : rgs a) :
    ACalls Tryz.prog 122 [encThr t, iv s, .agg [iv 15, iv a, iv b, iv c]] [] (one (.tup [encThr (loDo s ⟨15, a, b, c⟩ { t with pc := t.pc + 1 }), iv 0]) []) := by
  have hw : IntKind.i64.wrap (t.pc + 1) = t.pc + 1 := by rw [wrap_id] <;> omega
  have hs := fun v => rset_ok t.regs a v ha.1 ha.2
  unfold arrA at *
  unfold encThr thCells
  refine jcalls Tryz.func122 rfl (by kernel_rfl) Tryz.ntmps122 rfl rfl (fun w0 β0 ext hβ => ?_)
  repeat (first | refine js rfl ?_ | (refine jdraw ?_ ?_; · kernel_rfl) | refine jbu rfl rfl rfl rfl ?_)
  rw [hw]
  repeat (first | refine js rfl ?_ | (refine jdraw ?_ ?_; · kernel_rfl) | refine jbu rfl rfl rfl rfl ?_ | refine jv (hs _) rfl rfl rfl rfl rfl ?_)
  exact jr rfl rfl rfl rfl
end Go.AL
end
section
set_option maxRecDepth 100000
namespace Go.AL
open Go Go.Proofs
attribute [local irreducible] J
theorem encThr_agg (t : Thr) : encThr t = .agg [iv t.pc, iv (g0 t.regs 0), iv (g0 t.regs 1), iv (g0 t.regs 2), iv (g0 t.regs 3), iv (g0 t.regs 4), iv (g0 t.regs 5), iv (g0 t.regs 6), iv (g0 t.regs 7), .sl (t.frames.map encFrm), iv t.state, iv t.fault, .slz (t.left.map iv)] := rfl
theorem rput_ok (w : Wd) (k : Nat) (t : Thr) (hl : w.thr.length ≤ 1000) : ACalls Tryz.prog 120 [encWd w, iv (k : Int), encThr t] [] (one (encWd (setT w k t)) []) := by
  have h := rwith_thr w.thr k t hl
  unfold setT
  unfold encWd wCells ivs
  simp only
  rw [encThr_agg] at *
  refine jcalls Tryz.func120 rfl (by kernel_rfl) Tryz.ntmps120 rfl rfl (fun w0 β0 ext hβ => ?_)
  repeat (first | refine js rfl ?_ | (refine jdraw ?_ ?_; · kernel_rfl) | refine jbu rfl rfl rfl rfl ?_ | refine jv h rfl rfl rfl rfl rfl ?_)
  exact jr rfl rfl rfl rfl
theorem rfault_ok (w : Wd) (k : Nat) (e : Int) (hk : k < w.thr.length) (hl : w.thr.length ≤ 1000) : ACalls Tryz.prog 119 [encWd w, iv (k : Int), iv e] [] (one (encWd (faultW w k e)) []) := by
  have h := rput_ok w k { thrAt w k with state := 2, fault := e } hl
  have hk1 : (k : Int) < w.thr.length := by omega
  have hth := thrAt_at hk
  unfold faultW
  generalize hw' : setT w k { thrAt w k with state := 2, fault := e } = w' at *
  clear hw'
  rw [hth] at h
  generalize hT : at' w.thr (k : Int) = T at *
  rw [encThr_agg] at h
  simp only at h
  unfold encWd wCells ivs at *
  refine jcalls Tryz.func119 rfl (by kernel_rfl) Tryz.ntmps119 rfl rfl (fun w0 β0 ext hβ => ?_)
  refine js rfl ?_; refine js rfl ?_; refine js rfl ?_
  refine js rfl ?_
  refine js rfl ?_
  repeat (first | refine js rfl ?_ | (refine jdraw ?_ ?_; · kernel_rfl) | refine jbu rfl rfl rfl rfl ?_ | refine jo rfl rfl (index_at rfl rfl rfl rfl rfl rfl rfl rfl (Int.natCast_nonneg k) hk1) rfl rfl ?_)
  rw [hT]
  repeat (first | refine js rfl ?_ | (refine jdraw ?_ ?_; · kernel_rfl) | refine jbu rfl rfl rfl rfl ?_ | refine jv h rfl rfl rfl rfl rfl ?_)
  exact jr rfl rfl rfl rfl
theorem rlocal_ok (op : Int) : ACalls Tryz.prog 121 [iv op] [] (one (bv (inn op 1 15)) []) := by
  unfold inn
  refine jcalls Tryz.func121 rfl (by kernel_rfl) Tryz.ntmps121 rfl rfl (fun w0 β0 ext hβ => ?_)
  repeat (first | refine js rfl ?_ | (refine jdraw ?_ ?_; · kernel_rfl) | refine jbu rfl rfl rfl rfl ?_)
  rw [show decide (op ≥ 1) = decide (1 ≤ op) from rfl]
  cases h : decide (1 ≤ op)
  all_goals (
    repeat (first | refine js rfl ?_ | (refine jdraw ?_ ?_; · kernel_rfl) | refine jbu rfl rfl rfl rfl ?_)
  )
  all_goals exact jr rfl rfl rfl rfl
def rApp (s : Int) (i : Ins) (t : Thr) : Thr × Int := cond (decide (i.op = 13)) (rCall t i.a) (cond (decide (i.op = 14)) (rBack t) (loDo s i { t with pc := t.pc + 1 }, 0))
theorem resThr_ok (t : Thr) : resThr (t, 0) = encThr t := rfl
theorem loMay_rg {i : Ins} (h : loMay i = true) : (1 ≤ regsOf i.op.toNat → rgs i.a) ∧ (2 ≤ regsOf i.op.toNat → rgs i.b) ∧ (3 ≤ regsOf i.op.toNat → rgs i.c) := by
  unfold loMay at h
  rw [Bool.and_eq_true, List.all_eq_true] at h
  have h := h.1
  refine ⟨fun hn => rgs_of (h _ ?_), fun hn => rgs_of (h _ ?_), fun hn => rgs_of (h _ ?_)⟩
  all_goals generalize regsOf i.op.toNat = n at *
  · match n, hn with
    | n + 1, _ => simp
  · match n, hn with
    | n + 2, _ => simp
  · match n, hn with
    | n + 3, _ => simp
theorem rapply_ok (t : Thr) (s : Int) (i : Ins) (hp : 0 ≤ t.pc ∧ t.pc < 1000) (hf : t.frames.length ≤ 1000) (hm : loMay i = true) (ho : inn i.op 1 15 = true) :
    ACalls Tryz.prog 122 [encThr t, iv s, encIns i] [] (one (.tup [resThr (rApp s i t), iv (rApp s i t).2]) []) := by
  obtain ⟨op, a, b, c⟩ := i
  obtain ⟨m1, m2, m3⟩ := loMay_rg hm
  simp only at m1 m2 m3 ho
  unfold encIns
  simp only
  rcases inn15 ho with rfl | rfl | rfl | rfl | rfl | rfl | rfl | rfl | rfl | rfl | rfl | rfl | rfl | rfl | rfl
  · exact rap_1 t s a b c hp (m1 (by decide))
  · exact rap_2 t s a b c hp (m1 (by decide)) (m2 (by decide))
  · exact rap_3 t s a b c hp (m1 (by decide)) (m2 (by decide))
  · exact rap_4 t s a b c hp (m1 (by decide)) (m2 (by decide))
  · exact rap_5 t s a b c hp (m1 (by decide)) (m2 (by decide)) (m3 (by decide))
  · exact rap_6 t s a b c hp (m1 (by decide)) (m2 (by decide)) (m3 (by decide))
  · exact rap_7 t s a b c hp (m1 (by decide)) (m2 (by decide)) (m3 (by decide))
  · exact rap_8 t s a b c hp (m1 (by decide)) (m2 (by decide)) (m3 (by decide))
  · exact rap_9 t s a b c hp (m1 (by decide)) (m2 (by decide)) (m3 (by decide))
  · exact rap_10 t s a b c hp
  · exact rap_11 t s a b c hp (m1 (by decide))
  · exact rap_12 t s a b c hp (m1 (by decide))
  · have h := rcall_ok t a hf ⟨hp.1, by omega⟩
    rw [show rApp s ⟨13, a, b, c⟩ t = rCall t a from rfl]
    generalize rCall t a = r at *
    obtain ⟨x, e⟩ := r
    simp only at *
    by_cases he : e = 0
    · subst he
      rw [resThr_ok] at *
      rw [encThr_agg] at *
      refine jcalls Tryz.func122 rfl (by kernel_rfl) Tryz.ntmps122 rfl rfl (fun w0 β0 ext hβ => ?_)
      repeat (first | refine js rfl ?_ | (refine jdraw ?_ ?_; · kernel_rfl) | refine jbu rfl rfl rfl rfl ?_ | refine jv h rfl rfl rfl rfl rfl ?_)
      exact jr rfl rfl rfl rfl
    · have hr : resThr (x, e) = thrE0 := by unfold resThr; rw [decide_eq_false he]; rfl
      rw [hr] at h ⊢
      rw [encThr_agg] at *
      unfold thrE0 at h ⊢
      refine jcalls Tryz.func122 rfl (by kernel_rfl) Tryz.ntmps122 rfl rfl (fun w0 β0 ext hβ => ?_)
      repeat (first | refine js rfl ?_ | (refine jdraw ?_ ?_; · kernel_rfl) | refine jbu rfl rfl rfl rfl ?_ | refine jv h rfl rfl rfl rfl rfl ?_)
      exact jr rfl rfl rfl rfl
  · have h := rback_ok t hf
    rw [show rApp s ⟨14, a, b, c⟩ t = rBack t from rfl]
    generalize rBack t = r at *
    obtain ⟨x, e⟩ := r
    simp only at *
    by_cases he : e = 0
    · subst he
      rw [resThr_ok] at *
      rw [encThr_agg] at *
      refine jcalls Tryz.func122 rfl (by kernel_rfl) Tryz.ntmps122 rfl rfl (fun w0 β0 ext hβ => ?_)
      repeat (first | refine js rfl ?_ | (refine jdraw ?_ ?_; · kernel_rfl) | refine jbu rfl rfl rfl rfl ?_ | refine jv h rfl rfl rfl rfl rfl ?_)
      exact jr rfl rfl rfl rfl
    · have hr : resThr (x, e) = thrE0 := by unfold resThr; rw [decide_eq_false he]; rfl
      rw [hr] at h ⊢
      rw [encThr_agg] at *
      unfold thrE0 at h ⊢
      refine jcalls Tryz.func122 rfl (by kernel_rfl) Tryz.ntmps122 rfl rfl (fun w0 β0 ext hβ => ?_)
      repeat (first | refine js rfl ?_ | (refine jdraw ?_ ?_; · kernel_rfl) | refine jbu rfl rfl rfl rfl ?_ | refine jv h rfl rfl rfl rfl rfl ?_)
      exact jr rfl rfl rfl rfl
  · exact rap_15 t s a b c hp (m1 (by decide))
end Go.AL
end
